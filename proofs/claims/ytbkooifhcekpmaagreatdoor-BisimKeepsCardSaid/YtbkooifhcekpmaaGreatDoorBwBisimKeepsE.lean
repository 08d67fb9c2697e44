/- BisimKeeps, part 5: walks and plain laws. Conditions: none. -/
import Derived.Test.YtbkooifhcekpmaaGreatDoorProg
import Derived.Deep.QuietTactic
import Derived.Laws.CopyRow
import Derived.Test.YtbkooifhcekpmaaGreatDoorBwBisimKeepsD
set_option linter.unusedVariables false
set_option linter.unusedSimpArgs false
set_option linter.unusedSectionVars false
set_option maxRecDepth 100000
set_option maxHeartbeats 2000000
namespace Go.Bw
open Go Go.RowKit Go.Proofs
variable {R : Res} {Fr : List HProp} {A0 A0_0 A0_1 A0_3 A0_4 A0_5 A1 A0_2 A0_7 : Option Addr} {n0 c0 b0 n0_0 c0_0 n0_1 c0_1 n0_3 c0_3 n0_4 c0_4 n0_5 c0_5 b0_1 b0_2 n1 c1 b0_0 b0_0_1 b0_0_2 n0_2 c0_2 n0_7 c0_7 : Nat}
structure Q9 where
 Kind : Int
 A : Int
 B : Int
 Name : Bs
 At : Int
deriving Inhabited, DecidableEq
def Q9.fl : Fl Q9 := ⟨5, fun x => [i6 x.Kind, i6 x.A, i6 x.B, .string ⟨(x.Name).toArray⟩, i6 x.At], fun _ => rfl, fun x u hu => by simp at hu; rcases hu with rfl | rfl | rfl | rfl | rfl <;> rfl, by decide⟩
structure Q14 where
 node : Int
 nots : Int
deriving Inhabited, DecidableEq
def Q14.fl : Fl Q14 := ⟨2, fun x => [i6 x.node, i6 x.nots], fun _ => rfl, fun x u hu => by simp at hu; rcases hu with rfl | rfl <;> rfl, by decide⟩
noncomputable def Q118.f (a0 : List Q9) : Option (List Q9) :=
 if (0 + a0.length) * 48 ≤ 140737488355328 then some a0 else none
theorem Q118.callee : Callee Tryz.prog 112 := ⟨_, Tryz.func112, by kernel_rfl, by kernel_rfl⟩
theorem Q118.spec {a0 : List Q9} (hr0 : RdS (Q9.fl.rep) R.heap A0 a0) (hn0 : a0.length = n0) (hc0 : n0 ≤ c0) {r : List Q9} (j : Q118.f a0 = some r) :
 Spec Tryz.prog 112 [.slice A0 n0 c0] R (Fr) (fun v l' => ∃ (w1 : Option Addr) (w2 : Nat), v = .slice w1 r.length w2 ∧ row Q9.fl 171 w1 r.length w2 r :: Fr = l') := by
 subst hn0; refine Spec.of Tryz.func112 rfl rfl ?_; unfold Q118.f at j; have j := brun j; obtain ⟨hb, j⟩ := bnone j; cases bret j; refine sR 1 rfl (nT (At.seq (At.seq (At.region ?_)))); refine At.run 1 rfl ?_; refine At.y (Y.eqNil rfl rfl rfl rfl) rfl rfl rfl ?_; refine nT ?_; cases A0 with
 | none =>
  have ha : a0 = [] := RdS.isNil hr0; subst ha; refine At.condT rfl rfl ?_; refine sR 1 rfl (nT (At.ret (At.thr ?_))); refine At.nilRow Q9.fl 171 ?_; exact At.res (.inl rfl) rfl rfl ⟨_, _, rfl, rfl⟩
 | some ad =>
  refine At.condF rfl rfl ?_; refine At.skip (At.thn (At.seq (At.region ?_))); refine At.lit rfl (xo := []) (ys := ([] : List Q9)) Q9.fl rfl rfl rfl rfl rfl rfl rfl rfl rfl rfl rfl (fun B cb => ?_); refine At.run 1 rfl ?_; refine At.appendAll rfl .z (SrcE.rd hr0) rfl rfl rfl rfl rfl rfl rfl rfl rfl hb (by decide) rfl (fun A c => ?_); refine At.run 1 rfl (nT (At.ret ?_)); exact At.res (.inl rfl) rfl rfl ⟨_, _, rfl, rfl⟩

noncomputable def Q47.l0b (a0 : Bs) (p : Int) : Option ((Int) ⊕ ((Unit) ⊕ (Bool))) :=
 if p < (a0.length : Int) then
 if (0 : Int) ≤ p ∧ p < (a0.length : Int) then
 jn (
 if bor .u8 (bat a0 p) 32 < 97 then
 some (.inl true)
 else
 some (.inl (decide (122 < bor .u8 (bat a0 p) 32)))) (fun (q : Bool) =>
 jn (
 if q = true then
 jn (
 if bat a0 p < 48 then
 some (.inl (true, true))
 else
 some (.inl (false, decide (57 < bat a0 p)))) (fun (s_ : Bool × Bool) =>
 some (.inl s_.2))
 else
 some (.inl false)) (fun (u : Bool) =>
 jn (
 if u = true then
 some (.inl (!(decide (bat a0 p = 95))))
 else
 some (.inl false)) (fun (D : Bool) =>
 if D = true then
 upL (some false)
 else
 nx (IntKind.i64.wrap (p + 1)))))
 else none
 else
 dn (.inl ())
noncomputable def Q47.l0 (a0 : Bs) (p : Int) : Option ((Unit) ⊕ (Bool)) := iter (fun t_ : Int => Q47.l0b a0 t_) p
noncomputable def Q47.f (a0 : Bs) (a1 a2 : Int) : Option Bool :=
 jn (
 if (a0.length : Int) < 1 then
 some (.inl true)
 else
 some (.inl (decide (8 < (a0.length : Int))))) (fun (p : Bool) =>
 jn (
 if p = true then
 some (.inl true)
 else
 if (0 : Int) ≤ 0 ∧ 0 < (a0.length : Int) then
 some (.inl (decide (bat a0 0 < a1)))
 else none) (fun (q : Bool) =>
 jn (
 if q = true then
 some (.inl true)
 else
 if (0 : Int) ≤ 0 ∧ 0 < (a0.length : Int) then
 some (.inl (decide (a2 < bat a0 0)))
 else none) (fun (u : Bool) =>
 if u = true then
 some false
 else
 jn (Q47.l0 a0 0) (fun (_ : Unit) =>
 some true))))
theorem Q47.callee : Callee Tryz.prog 220 := ⟨_, Tryz.func220, by kernel_rfl, by kernel_rfl⟩
theorem Q47.spec {a0 : Bs} {a1 a2 : Int} {r : Bool} (j : Q47.f a0 a1 a2 = some r) :
 Spec Tryz.prog 220 [.string ⟨(a0).toArray⟩, .int .u8 a1, .int .u8 a2] R (Fr) (fun v l' => v = .bool r ∧ Fr = l') := by
 refine Spec.of Tryz.func220 rfl rfl ?_; unfold Q47.f at j; have j := brun j; refine sR 1 rfl (nT (At.seq (At.seq (At.region ?_)))); refine At.run 4 rfl ?_; obtain ⟨d5, d6, f7, j⟩ := bjoin j; refine At.joinO 4 (X := Bool) (fun u => [(0, .string ⟨(a0).toArray⟩), (1, .int .u8 a1), (2, .int .u8 a2), (16, .bool u)]) (fun u => Fr) (fun u => d5 (.inl u) = some r) ?_ (fun b6 => ?_)
 ·rintro u j; have j := (d6 _).symm.trans j
  ·refine At.run 1 rfl ?_; obtain ⟨d7, d8, f8, j⟩ := bjoin j; refine At.joinO 5 (X := Bool) (fun D => [(0, .string ⟨(a0).toArray⟩), (2, .int .u8 a2), (22, .bool D)]) (fun D => Fr) (fun D => d7 (.inl D) = some r) ?_ (fun b7 => ?_)
   ·rintro D j; have j := (d8 _).symm.trans j
    ·refine At.run 1 rfl ?_; obtain ⟨d9, e1, f9, j⟩ := bjoin j; refine At.joinO 5 (X := Bool) (fun G => [(0, .string ⟨(a0).toArray⟩), (28, .bool G)]) (fun G => Fr) (fun G => d9 (.inl G) = some r) ?_ (fun b8 => ?_)
     ·rintro G j; have j := (e1 _).symm.trans j
      ·refine nT ?_; rcases bite j with ⟨U, j⟩ | ⟨U, j⟩
       ··refine At.condT rfl U ?_
         refine sR 1 rfl (nT (At.ret (At.thr ?_))); cases bret j; exact At.res (.inl rfl) rfl rfl ⟨rfl, rfl⟩
       ··refine At.condF rfl (bn U) ?_
         refine At.skip (At.thn (At.seq (sR 3 rfl (nT ?_)))); refine At.block ?_; obtain ⟨e2, e3, e4, j⟩ := bjoin j; obtain ⟨q, V, b9⟩ := bsome j; clear j; unfold Q47.l0 at V; obtain ⟨Z, I⟩ := Q16.1 V; clear V; refine At.loopJ (X := Int) (Y := Unit) (e0 := 0) (fun p => [(0, .string ⟨(a0).toArray⟩), (30, i6 (a0.length : Int)), (31, i6 p)]) (fun p => Fr) (fun m_ => fun p => iterN (fun t_ : Int => Q47.l0b a0 t_) m_ p = some q) Z 0 I (fun _ => []) (fun _ => Fr) (fun _ => e2 (.inl ()) = some r) (fun a w e hs => ⟨e.sub ⟨rfl, rfl, rfl, trivial⟩, (by exact hs)⟩) ?_ (fun e5 => ?_)
         ·rintro _ j; have j := (e3 _).symm.trans j
          ·refine At.ibx ?_; refine At.thn (sR 1 rfl (nT (At.ret ?_))); cases bret j; exact At.res (.inl rfl) rfl rfl ⟨rfl, rfl⟩
         ·clear I Z; rintro Z p I; obtain ⟨e6, f_, e7, hf_, j⟩ := bit I; clear I; have j : (Q47.l0b a0 p).bind _ = some q := j; unfold Q47.l0b at j
          ·refine sR 1 rfl (nT (At.seq ?_)); rcases bite j with ⟨a3, j⟩ | ⟨a3, j⟩
           ··refine At.condT rfl (decide_eq_true a3) ?_
             refine At.skip (At.thn (At.seq ?_)); refine At.block ?_; refine sR 2 rfl (nT (sR 2 rfl ?_)); obtain ⟨c8, j⟩ := bnone j; refine At.y (Y.ixStr rfl rfl rfl rfl c8.1 c8.2) rfl rfl rfl (At.run 1 rfl (nT (sR 4 rfl ?_))); obtain ⟨e8, e9, g0, j⟩ := bjoin j; refine At.joinO 4 (X := Bool) (fun J => [(0, .string ⟨(a0).toArray⟩), (8, .int .u8 (bat a0 p)), (30, i6 (a0.length : Int)), (31, i6 p), (44, .bool J)]) (fun J => Fr) (fun J => e8 (.inl J) = some q) ?_ (fun c9 => ?_)
             ·rintro J j; have j := (e9 _).symm.trans j
              ·refine At.run 1 rfl ?_; obtain ⟨f0, f1, g1, j⟩ := bjoin j; refine At.joinO 7 (X := Bool) (fun L => [(0, .string ⟨(a0).toArray⟩), (8, .int .u8 (bat a0 p)), (30, i6 (a0.length : Int)), (31, i6 p), (52, .bool L)]) (fun L => Fr) (fun L => f0 (.inl L) = some q) ?_ (fun d0 => ?_)
               ·rintro L j; have j := (f1 _).symm.trans j
                ·refine At.run 1 rfl ?_; obtain ⟨f2, f3, g2, j⟩ := bjoin j; refine At.joinO 3 (X := Bool) (fun O => [(0, .string ⟨(a0).toArray⟩), (30, i6 (a0.length : Int)), (31, i6 p), (56, .bool O)]) (fun O => Fr) (fun O => f2 (.inl O) = some q) ?_ (fun d1 => ?_)
                 ·rintro O j; have j := (f3 _).symm.trans j
                  ·refine nT ?_; rcases bite j with ⟨a4, j⟩ | ⟨a4, j⟩
                   ··refine At.condT rfl a4 ?_
                     refine sR 1 rfl (nT (At.ret ?_)); refine At.ibr ?_; refine At.thr ?_; have j := bupL e4 b9 j; refine At.thr ?_; refine At.ibr ?_; refine At.thr ?_; cases bret j; exact At.res (.inl rfl) rfl rfl ⟨rfl, rfl⟩
                   ··refine At.condF rfl (bn a4) ?_
                     refine At.skip ?_; refine At.ibn ?_; refine At.thn (At.region (At.run 2 rfl (At.nil ?_))); have j := bnx hf_ j; exact fun a w e hs => ⟨e6, (IntKind.i64.wrap (p + 1)), e7, j, e.sub ⟨rfl, rfl, rfl, trivial⟩, hs⟩
                 ··rcases bite j with ⟨a5, j⟩ | ⟨a5, j⟩
                   ··refine At.know (t := 53) rfl a5 ?_
                     refine At.run 3 rfl ?_; exact At.of (d1 (!(decide (bat a0 p = 95))) j) ⟨rfl, rfl, rfl, rfl, trivial⟩
                   ··refine At.know (t := 53) rfl (bn a5) ?_
                     refine At.run 3 rfl ?_; exact At.of (d1 false j) ⟨rfl, rfl, rfl, rfl, trivial⟩
               ··rcases bite j with ⟨a6, j⟩ | ⟨a6, j⟩
                 ··refine At.know (t := 45) rfl a6 ?_
                   refine At.run 3 rfl ?_; obtain ⟨f4, f5, g3, j⟩ := bjoin j; refine At.joinO 3 (X := Bool × Bool) (fun s_ => [(0, .string ⟨(a0).toArray⟩), (8, .int .u8 (bat a0 p)), (30, i6 (a0.length : Int)), (31, i6 p), (45, .bool true), (46, .int .u8 (bat a0 p)), (47, .bool (decide (bat a0 p < 48))), (48, .bool s_.1), (51, .bool s_.2)]) (fun s_ => Fr) (fun s_ => f4 (.inl (s_.1, s_.2)) = some q) ?_ (fun d2 => ?_)
                   ·rintro ⟨g4, f6⟩ j; have j := (f5 _).symm.trans j
                    ·refine At.run 1 rfl ?_; exact At.of (d0 f6 j) ⟨rfl, rfl, rfl, rfl, rfl, trivial⟩
                   ··rcases bite j with ⟨a7, j⟩ | ⟨a7, j⟩
                     ··refine At.know (t := 48) rfl (decide_eq_true a7) ?_
                       refine At.run 3 rfl ?_; exact At.of (d2 (true, true) j) ⟨rfl, rfl, rfl, rfl, rfl, rfl, rfl, rfl, rfl, trivial⟩
                     ··refine At.know (t := 48) rfl (decide_eq_false a7) ?_
                       refine At.run 3 rfl ?_; exact At.of (d2 (false, decide (57 < bat a0 p)) j) ⟨rfl, rfl, rfl, rfl, rfl, rfl, rfl, rfl, rfl, trivial⟩
                 ··refine At.know (t := 45) rfl (bn a6) ?_
                   refine At.run 7 rfl ?_; exact At.of (d0 false j) ⟨rfl, rfl, rfl, rfl, rfl, trivial⟩
             ··rcases bite j with ⟨a8, j⟩ | ⟨a8, j⟩
               ··refine At.know (t := 40) rfl (decide_eq_true a8) ?_
                 refine At.run 4 rfl ?_; exact At.of (c9 true j) ⟨rfl, rfl, rfl, rfl, rfl, trivial⟩
               ··refine At.know (t := 40) rfl (decide_eq_false a8) ?_
                 refine At.run 4 rfl ?_; exact At.of (c9 (decide (122 < bor .u8 (bat a0 p) 32)) j) ⟨rfl, rfl, rfl, rfl, rfl, trivial⟩
           ··refine At.condF rfl (decide_eq_false a3) ?_
             refine At.exit ?_; refine At.the ?_; refine At.the ?_; exact fun a w e hs => e5 () (bdn j b9) a w (e.sub trivial) hs
     ··rcases bite j with ⟨a9, j⟩ | ⟨a9, j⟩
       ··refine At.know (t := 23) rfl a9 ?_
         refine At.run 5 rfl ?_; exact At.of (b8 true j) ⟨rfl, rfl, trivial⟩
       ··refine At.know (t := 23) rfl (bn a9) ?_
         refine At.run 1 rfl ?_; obtain ⟨d3, j⟩ := bnone j; refine At.y (Y.ixStr rfl rfl rfl rfl d3.1 d3.2) rfl rfl rfl (At.run 3 rfl ?_); exact At.of (b8 (decide (a2 < bat a0 0)) j) ⟨rfl, rfl, trivial⟩
   ··rcases bite j with ⟨b4, j⟩ | ⟨b4, j⟩
     ··refine At.know (t := 17) rfl b4 ?_
       refine At.run 5 rfl ?_; exact At.of (b7 true j) ⟨rfl, rfl, rfl, trivial⟩
     ··refine At.know (t := 17) rfl (bn b4) ?_
       refine At.run 1 rfl ?_; obtain ⟨d4, j⟩ := bnone j; refine At.y (Y.ixStr rfl rfl rfl rfl d4.1 d4.2) rfl rfl rfl (At.run 3 rfl ?_); exact At.of (b7 (decide (bat a0 0 < a1)) j) ⟨rfl, rfl, rfl, trivial⟩
 ··rcases bite j with ⟨b5, j⟩ | ⟨b5, j⟩
   ··refine At.know (t := 12) rfl (decide_eq_true b5) ?_
     refine At.run 4 rfl ?_; exact At.of (b6 true j) ⟨rfl, rfl, rfl, rfl, trivial⟩
   ··refine At.know (t := 12) rfl (decide_eq_false b5) ?_
     refine At.run 4 rfl ?_; exact At.of (b6 (decide (8 < (a0.length : Int))) j) ⟨rfl, rfl, rfl, rfl, trivial⟩

noncomputable def Q121.f (a0 : Bs) : Option Bool :=
 jn (
 if bseq a0 ([116, 116] : Bs) = true then
 some (.inl true)
 else
 some (.inl (bseq a0 ([102, 102] : Bs)))) (fun (p : Bool) =>
 jn (
 if p = true then
 some (.inl true)
 else
 some (.inl (bseq a0 ([109, 117] : Bs)))) (fun (q : Bool) =>
 jn (
 if q = true then
 some (.inl true)
 else
 some (.inl (bseq a0 ([110, 117] : Bs)))) (fun (u : Bool) =>
 some u)))
theorem Q121.callee : Callee Tryz.prog 221 := ⟨_, Tryz.func221, by kernel_rfl, by kernel_rfl⟩
theorem Q121.spec {a0 : Bs} {r : Bool} (j : Q121.f a0 = some r) :
 Spec Tryz.prog 221 [.string ⟨(a0).toArray⟩] R (Fr) (fun v l' => v = .bool r ∧ Fr = l') := by
 refine Spec.of Tryz.func221 rfl rfl ?_; unfold Q121.f at j; have j := brun j; refine sR 1 rfl (nT (sR 3 rfl ?_)); obtain ⟨U, V, a4, j⟩ := bjoin j; refine At.joinO 3 (X := Bool) (fun p => [(0, .string ⟨(a0).toArray⟩), (8, .bool p)]) (fun p => Fr) (fun p => U (.inl p) = some r) ?_ (fun J => ?_)
 ·rintro p j; have j := (V _).symm.trans j
  ·refine At.run 1 rfl ?_; obtain ⟨Z, a1, a5, j⟩ := bjoin j; refine At.joinO 3 (X := Bool) (fun q => [(0, .string ⟨(a0).toArray⟩), (12, .bool q)]) (fun q => Fr) (fun q => Z (.inl q) = some r) ?_ (fun L => ?_)
   ·rintro q j; have j := (a1 _).symm.trans j
    ·refine At.run 1 rfl ?_; obtain ⟨a2, a3, a6, j⟩ := bjoin j; refine At.joinO 3 (X := Bool) (fun u => [(16, .bool u)]) (fun u => Fr) (fun u => a2 (.inl u) = some r) ?_ (fun O => ?_)
     ·rintro u j; have j := (a3 _).symm.trans j
      ·refine At.run 1 rfl (nT (At.ret ?_)); cases bret j; exact At.res (.inl rfl) rfl rfl ⟨rfl, rfl⟩
     ··rcases bite j with ⟨D, j⟩ | ⟨D, j⟩
       ··refine At.know (t := 13) rfl D ?_
         refine At.run 3 rfl ?_; exact At.of (O true j) ⟨rfl, trivial⟩
       ··refine At.know (t := 13) rfl (bn D) ?_
         refine At.run 3 rfl ?_; exact At.of (O (bseq a0 ([110, 117] : Bs)) j) ⟨rfl, trivial⟩
   ··rcases bite j with ⟨G, j⟩ | ⟨G, j⟩
     ··refine At.know (t := 9) rfl G ?_
       refine At.run 3 rfl ?_; exact At.of (L true j) ⟨rfl, rfl, trivial⟩
     ··refine At.know (t := 9) rfl (bn G) ?_
       refine At.run 3 rfl ?_; exact At.of (L (bseq a0 ([109, 117] : Bs)) j) ⟨rfl, rfl, trivial⟩
 ··rcases bite j with ⟨I, j⟩ | ⟨I, j⟩
   ··refine At.know (t := 5) rfl I ?_
     refine At.run 3 rfl ?_; exact At.of (J true j) ⟨rfl, rfl, trivial⟩
   ··refine At.know (t := 5) rfl (bn I) ?_
     refine At.run 3 rfl ?_; exact At.of (J (bseq a0 ([102, 102] : Bs)) j) ⟨rfl, rfl, trivial⟩

noncomputable def Q96.f (a0 : Bs) : Option Bool :=
 (Q47.f a0 97 122).bind fun p =>
 jn (
 if p = true then
 (Q121.f a0).bind fun q =>
 some (.inl (!q))
 else
 some (.inl false)) (fun (u : Bool) =>
 some u)
theorem Q96.callee : Callee Tryz.prog 213 := ⟨_, Tryz.func213, by kernel_rfl, by kernel_rfl⟩
theorem Q96.spec {a0 : Bs} {r : Bool} (j : Q96.f a0 = some r) :
 Spec Tryz.prog 213 [.string ⟨(a0).toArray⟩] R (Fr) (fun v l' => v = .bool r ∧ Fr = l') := by
 refine Spec.of Tryz.func213 rfl rfl ?_; unfold Q96.f at j; have j := brun j; refine sR 1 rfl (nT (sR 1 rfl ?_)); obtain ⟨O, D, j⟩ := bbind j; refine At.call rfl Q47.callee rfl rfl rfl (Q47.spec D) ?_; rintro _ _ ⟨rfl, rfl⟩; refine At.run 1 rfl ?_; obtain ⟨G, I, U, j⟩ := bjoin j; refine At.joinO 4 (X := Bool) (fun p => [(9, .bool p)]) (fun p => Fr) (fun p => G (.inl p) = some r) ?_ (fun u => ?_)
 ·rintro p j; have j := (I _).symm.trans j
  ·refine At.run 1 rfl (nT (At.ret ?_)); cases bret j; exact At.res (.inl rfl) rfl rfl ⟨rfl, rfl⟩
 ··rcases bite j with ⟨q, j⟩ | ⟨q, j⟩
   ··refine At.know (t := 5) rfl q ?_
     refine At.run 1 rfl ?_; obtain ⟨J, L, j⟩ := bbind j; refine At.call rfl Q121.callee rfl rfl rfl (Q121.spec L) ?_; rintro _ _ ⟨rfl, rfl⟩; refine At.run 2 rfl ?_; exact At.of (u (!J) j) ⟨rfl, trivial⟩
   ··refine At.know (t := 5) rfl (bn q) ?_
     refine At.run 4 rfl ?_; exact At.of (u false j) ⟨rfl, trivial⟩

noncomputable def Q100.f (a0 : Bs) : Option Bool :=
 (Q47.f a0 65 90).bind fun p =>
 some p
theorem Q100.callee : Callee Tryz.prog 214 := ⟨_, Tryz.func214, by kernel_rfl, by kernel_rfl⟩
theorem Q100.spec {a0 : Bs} {r : Bool} (j : Q100.f a0 = some r) :
 Spec Tryz.prog 214 [.string ⟨(a0).toArray⟩] R (Fr) (fun v l' => v = .bool r ∧ Fr = l') := by
 refine Spec.of Tryz.func214 rfl rfl ?_; unfold Q100.f at j; have j := brun j; refine sR 1 rfl (nT (sR 1 rfl ?_)); obtain ⟨q, p, j⟩ := bbind j; refine At.call rfl Q47.callee rfl rfl rfl (Q47.spec p) ?_; rintro _ _ ⟨rfl, rfl⟩; refine At.run 1 rfl (nT (At.ret ?_)); cases bret j; exact At.res (.inl rfl) rfl rfl ⟨rfl, rfl⟩

noncomputable def Q115.f (p X Z : Int) (q : Bs) (a0 : Int) : Option (Bool × Int) :=
 jn (
 if p = 1 then
 some (.inl (decide (p = 1)))
 else
 some (.inl (decide (p = 2)))) (fun (u : Bool) =>
 if u = true then
 some (bseq q ([] : Bs), 0)
 else
 if p = 3 then
 (Q96.f q).bind fun D =>
 some (D, 0)
 else
 if p = 4 then
 (Q100.f q).bind fun G =>
 some (G, 0)
 else
 if p = 5 then
 some (bseq q ([] : Bs), 1)
 else
 jn (
 if p = 8 then
 some (.inl (decide (p = 8)))
 else
 some (.inl (decide (p = 9)))) (fun (I : Bool) =>
 if I = true then
 jn (
 if bseq q ([45] : Bs) = true then
 some (.inl true)
 else
 (Q96.f q).bind fun J =>
 some (.inl J)) (fun (L : Bool) =>
 some (L, 1))
 else
 jn (
 if p = 10 then
 some (.inl (decide (p = 10)))
 else
 some (.inl (decide (p = 11)))) (fun (O : Bool) =>
 if O = true then
 (Q100.f q).bind fun U =>
 some (U, 1)
 else
 jn (
 if p = 6 then
 some (.inl (decide (p = 6)))
 else
 some (.inl (decide (p = 7)))) (fun (V : Bool) =>
 if V = true then
 some (bseq q ([] : Bs), 2)
 else
 some (false, 0)))))
theorem Q115.callee : Callee Tryz.prog 195 := ⟨_, Tryz.func195, by kernel_rfl, by kernel_rfl⟩
theorem Q115.spec {p L O U : Int} {V : Bs} {r : Bool × Int} (j : Q115.f p L O V U = some r) :
 Spec Tryz.prog 195 [.agg #[i6 p, i6 L, i6 O, .string ⟨(V).toArray⟩, i6 U]] R (Fr) (fun v l' => v = .tuple #[i6 r.2, .bool r.1] ∧ Fr = l') := by
 refine Spec.of Tryz.func195 rfl rfl ?_; unfold Q115.f at j; have j := brun j; refine At.seq (At.region ?_); refine At.box rfl rfl (cs := [i6 p, i6 L, i6 O, .string ⟨(V).toArray⟩, i6 U]) rfl rfl (fun q => ?_); refine At.run 2 rfl (nT (At.seq (sR 1 rfl (At.y (Y.load rfl rfl .z rfl rfl rfl) rfl rfl rfl ?_)))); refine nT ?_; refine At.block ?_; refine At.seq (sR 2 rfl (nT ?_)); obtain ⟨c8, c9, e3, j⟩ := bjoin j; let T1 : HProp := pc q [i6 p, i6 L, i6 O, .string ⟨(V).toArray⟩, i6 U] 171; refine At.join (X := Bool) (fun u => [(1, bp q), (5, i6 p), (6, .bool u)]) (fun u => T1 :: Fr) (fun u => c8 (.inl u) = some r) ?_ (fun b5 => ?_)
 ·rintro u j; have j := (c9 _).symm.trans j
  ·rcases bite j with ⟨Z, j⟩ | ⟨Z, j⟩
   ··refine At.condT rfl Z ?_
     refine At.seq ?_; refine At.quiet (by kernel_rfl) ?_; refine At.Quiet.run 1 rfl ?_; refine At.Quiet.y (Y.load rfl rfl .z rfl rfl rfl) rfl rfl rfl ?_; refine At.Quiet.run 3 rfl (At.Quiet.nil (At.thn (At.ret ?_))); refine At.ibr ?_; refine At.thr (At.drop .z ?_); cases bret j; exact At.res (.inl rfl) rfl rfl ⟨rfl, rfl⟩
   ··refine At.condF rfl (bn Z) ?_
     refine sR 2 rfl (nT ?_); rcases bite j with ⟨a0, j⟩ | ⟨a0, j⟩
     ··refine At.condT rfl (decide_eq_true a0) ?_
       refine sR 1 rfl (At.y (Y.load rfl rfl .z rfl rfl rfl) rfl rfl rfl ?_); obtain ⟨e4, d0, j⟩ := bbind j; refine At.call rfl Q96.callee rfl rfl rfl (Q96.spec d0) ?_; rintro _ _ ⟨rfl, rfl⟩; refine At.run 2 rfl (nT (At.ret ?_)); refine At.ibr ?_; refine At.thr (At.drop .z ?_); cases bret j; exact At.res (.inl rfl) rfl rfl ⟨rfl, rfl⟩
     ··refine At.condF rfl (decide_eq_false a0) ?_
       refine sR 2 rfl (nT ?_); rcases bite j with ⟨a1, j⟩ | ⟨a1, j⟩
       ··refine At.condT rfl (decide_eq_true a1) ?_
         refine sR 1 rfl (At.y (Y.load rfl rfl .z rfl rfl rfl) rfl rfl rfl ?_); obtain ⟨e5, d1, j⟩ := bbind j; refine At.call rfl Q100.callee rfl rfl rfl (Q100.spec d1) ?_; rintro _ _ ⟨rfl, rfl⟩; refine At.run 2 rfl (nT (At.ret ?_)); refine At.ibr ?_; refine At.thr (At.drop .z ?_); cases bret j; exact At.res (.inl rfl) rfl rfl ⟨rfl, rfl⟩
       ··refine At.condF rfl (decide_eq_false a1) ?_
         refine sR 2 rfl (nT ?_); rcases bite j with ⟨a2, j⟩ | ⟨a2, j⟩
         ··refine At.condT rfl (decide_eq_true a2) ?_
           refine At.seq ?_; refine At.quiet (by kernel_rfl) ?_; refine At.Quiet.run 1 rfl ?_; refine At.Quiet.y (Y.load rfl rfl .z rfl rfl rfl) rfl rfl rfl ?_; refine At.Quiet.run 3 rfl (At.Quiet.nil (At.thn (At.ret ?_))); refine At.ibr ?_; refine At.thr (At.drop .z ?_); cases bret j; exact At.res (.inl rfl) rfl rfl ⟨rfl, rfl⟩
         ··refine At.condF rfl (decide_eq_false a2) ?_
           refine At.seq (sR 2 rfl (nT ?_)); obtain ⟨d2, d3, e6, j⟩ := bjoin j; refine At.join (X := Bool) (fun D => [(1, bp q), (5, i6 p), (27, .bool D)]) (fun D => T1 :: Fr) (fun D => d2 (.inl D) = some r) ?_ (fun b6 => ?_)
           ·rintro D j; have j := (d3 _).symm.trans j
            ·rcases bite j with ⟨a3, j⟩ | ⟨a3, j⟩
             ··refine At.condT rfl a3 ?_
               refine sR 1 rfl (At.y (Y.load rfl rfl .z rfl rfl rfl) rfl rfl rfl (At.run 2 rfl ?_)); obtain ⟨d4, d5, e7, j⟩ := bjoin j; refine At.joinO 4 (X := Bool) (fun G => [(37, .bool G)]) (fun G => T1 :: Fr) (fun G => d4 (.inl G) = some r) ?_ (fun b7 => ?_)
               ·rintro G j; have j := (d5 _).symm.trans j
                ·refine At.run 2 rfl (nT (At.ret ?_)); refine At.ibr ?_; refine At.thr (At.drop .z ?_); cases bret j; exact At.res (.inl rfl) rfl rfl ⟨rfl, rfl⟩
               ··rcases bite j with ⟨a4, j⟩ | ⟨a4, j⟩
                 ··refine At.know (t := 33) rfl a4 ?_
                   refine At.run 4 rfl ?_; exact At.of (b7 true j) ⟨rfl, trivial⟩
                 ··refine At.know (t := 33) rfl (bn a4) ?_
                   refine At.run 1 rfl (At.y (Y.load rfl rfl .z rfl rfl rfl) rfl rfl rfl ?_); obtain ⟨d6, d7, j⟩ := bbind j; refine At.call rfl Q96.callee rfl rfl rfl (Q96.spec d7) ?_; rintro _ _ ⟨rfl, rfl⟩; refine At.run 1 rfl ?_; exact At.of (b7 d6 j) ⟨rfl, trivial⟩
             ··refine At.condF rfl (bn a3) ?_
               refine At.seq (sR 2 rfl (nT ?_)); obtain ⟨d8, d9, e8, j⟩ := bjoin j; refine At.join (X := Bool) (fun I => [(1, bp q), (5, i6 p), (38, .bool I)]) (fun I => T1 :: Fr) (fun I => d8 (.inl I) = some r) ?_ (fun b8 => ?_)
               ·rintro I j; have j := (d9 _).symm.trans j
                ·rcases bite j with ⟨a5, j⟩ | ⟨a5, j⟩
                 ··refine At.condT rfl a5 ?_
                   refine sR 1 rfl (At.y (Y.load rfl rfl .z rfl rfl rfl) rfl rfl rfl ?_); obtain ⟨e9, e0, j⟩ := bbind j; refine At.call rfl Q100.callee rfl rfl rfl (Q100.spec e0) ?_; rintro _ _ ⟨rfl, rfl⟩; refine At.run 2 rfl (nT (At.ret ?_)); refine At.ibr ?_; refine At.thr (At.drop .z ?_); cases bret j; exact At.res (.inl rfl) rfl rfl ⟨rfl, rfl⟩
                 ··refine At.condF rfl (bn a5) ?_
                   refine At.seq (sR 2 rfl (nT ?_)); obtain ⟨e1, e2, f0, j⟩ := bjoin j; refine At.join (X := Bool) (fun J => [(1, bp q), (44, .bool J)]) (fun J => T1 :: Fr) (fun J => e1 (.inl J) = some r) ?_ (fun b9 => ?_)
                   ·rintro J j; have j := (e2 _).symm.trans j
                    ·rcases bite j with ⟨a6, j⟩ | ⟨a6, j⟩
                     ··refine At.condT rfl a6 ?_
                       refine At.seq ?_; refine At.quiet (by kernel_rfl) ?_; refine At.Quiet.run 1 rfl ?_; refine At.Quiet.y (Y.load rfl rfl .z rfl rfl rfl) rfl rfl rfl ?_; refine At.Quiet.run 3 rfl (At.Quiet.nil (At.thn (At.ret ?_))); refine At.ibr ?_; refine At.thr (At.drop .z ?_); cases bret j; exact At.res (.inl rfl) rfl rfl ⟨rfl, rfl⟩
                     ··refine At.condF rfl (bn a6) ?_
                       refine At.skip ?_; refine At.ibn ?_; refine At.thn (sR 2 rfl (nT (At.ret (At.drop .z ?_)))); cases bret j; exact At.res (.inl rfl) rfl rfl ⟨rfl, rfl⟩
                   ··rcases bite j with ⟨a7, j⟩ | ⟨a7, j⟩
                     ··refine At.condT rfl (decide_eq_true a7) ?_
                       refine At.skip (At.thn ?_); exact fun a w e hs => b9 (decide (p = 6)) j a w (e.sub ⟨rfl, rfl, trivial⟩) hs
                     ··refine At.condF rfl (decide_eq_false a7) ?_
                       refine At.region (At.run 2 rfl (nT ?_)); exact fun a w e hs => b9 (decide (p = 7)) j a w (e.sub ⟨rfl, rfl, trivial⟩) hs
               ··rcases bite j with ⟨a8, j⟩ | ⟨a8, j⟩
                 ··refine At.condT rfl (decide_eq_true a8) ?_
                   refine At.skip (At.thn ?_); exact fun a w e hs => b8 (decide (p = 10)) j a w (e.sub ⟨rfl, rfl, rfl, trivial⟩) hs
                 ··refine At.condF rfl (decide_eq_false a8) ?_
                   refine At.region (At.run 2 rfl (nT ?_)); exact fun a w e hs => b8 (decide (p = 11)) j a w (e.sub ⟨rfl, rfl, rfl, trivial⟩) hs
           ··rcases bite j with ⟨a9, j⟩ | ⟨a9, j⟩
             ··refine At.condT rfl (decide_eq_true a9) ?_
               refine At.skip (At.thn ?_); exact fun a w e hs => b6 (decide (p = 8)) j a w (e.sub ⟨rfl, rfl, rfl, trivial⟩) hs
             ··refine At.condF rfl (decide_eq_false a9) ?_
               refine At.region (At.run 2 rfl (nT ?_)); exact fun a w e hs => b6 (decide (p = 9)) j a w (e.sub ⟨rfl, rfl, rfl, trivial⟩) hs
 ··rcases bite j with ⟨b4, j⟩ | ⟨b4, j⟩
   ··refine At.condT rfl (decide_eq_true b4) ?_
     refine At.skip (At.thn ?_); exact fun a w e hs => b5 (decide (p = 1)) j a w (e.sub ⟨rfl, rfl, rfl, trivial⟩) hs
   ··refine At.condF rfl (decide_eq_false b4) ?_
     refine At.region (At.run 2 rfl (nT ?_)); exact fun a w e hs => b5 (decide (p = 2)) j a w (e.sub ⟨rfl, rfl, rfl, trivial⟩) hs

noncomputable def Q130.f (a0 : Int) : Option Bool :=
 some (!(decide (a0 = 0)))
theorem Q130.callee : Callee Tryz.prog 196 := ⟨_, Tryz.func196, by kernel_rfl, by kernel_rfl⟩
theorem Q130.spec {a0 : Int} {r : Bool} (j : Q130.f a0 = some r) :
 Spec Tryz.prog 196 [i6 a0] R (Fr) (fun v l' => v = .bool r ∧ Fr = l') := by
 refine Spec.of Tryz.func196 rfl rfl ?_; unfold Q130.f at j; have j := brun j; refine sR 1 rfl (nT (sR 3 rfl ?_)); refine nT (At.ret ?_); cases bret j; exact At.res (.inl rfl) rfl rfl ⟨rfl, rfl⟩

noncomputable def Q55.l0b (a0 : List Int) (p : Int) : Option ((Int) ⊕ ((Unit) ⊕ (Int))) :=
 if p < (a0.length : Int) then
 if (0 : Int) ≤ p ∧ p < (a0.length : Int) then
 (Q130.f (gt a0 p)).bind fun q =>
 if q = true then
 upL (some p)
 else
 nx (IntKind.i64.wrap (p + 1))
 else none
 else
 dn (.inl ())
noncomputable def Q55.l0 (a0 : List Int) (p : Int) : Option ((Unit) ⊕ (Int)) := iter (fun t_ : Int => Q55.l0b a0 t_) p
noncomputable def Q55.f (a0 : List Int) : Option Int :=
 jn (Q55.l0 a0 0) (fun (_ : Unit) =>
 some (-1))
theorem Q55.callee : Callee Tryz.prog 86 := ⟨_, Tryz.func86, by kernel_rfl, by kernel_rfl⟩
theorem Q55.spec {a0 : List Int} (hr0 : RdS (Fl.int .i64).rep R.heap A0 a0) (hn0 : a0.length = n0) (hc0 : n0 ≤ c0) {r : Int} (j : Q55.f a0 = some r) :
 Spec Tryz.prog 86 [.slice A0 n0 c0, .func (.func 196) #[] #[]] R (Fr) (fun v l' => v = i6 r ∧ Fr = l') := by
 subst hn0; refine Spec.of Tryz.func86 rfl rfl ?_; unfold Q55.f at j; have j := brun j; refine sR 1 rfl (nT (At.seq (At.seq (At.region ?_)))); refine At.run 3 rfl (nT ?_); refine At.block ?_; obtain ⟨V, Z, a1, j⟩ := bjoin j; obtain ⟨O, G, U⟩ := bsome j; clear j; unfold Q55.l0 at G; obtain ⟨I, u⟩ := Q16.1 G; clear G; refine At.loopJ (X := Int) (Y := Unit) (e0 := 0) (fun p => [(0, .slice A0 a0.length c0), (1, .func (.func 196) #[] #[]), (7, i6 (a0.length : Int)), (8, i6 p)]) (fun p => Fr) (fun m_ => fun p => iterN (fun t_ : Int => Q55.l0b a0 t_) m_ p = some O) I 0 u (fun _ => []) (fun _ => Fr) (fun _ => V (.inl ()) = some r) (fun a w e hs => ⟨e.sub ⟨rfl, rfl, rfl, rfl, trivial⟩, (by exact hs)⟩) ?_ (fun a2 => ?_)
 ·rintro _ j; have j := (Z _).symm.trans j
  ·refine At.ibx ?_; refine At.thn (sR 1 rfl (nT (At.ret ?_))); cases bret j; exact At.res (.inl rfl) rfl rfl ⟨rfl, rfl⟩
 ·clear u I; rintro I p u; obtain ⟨a3, f_, a4, hf_, j⟩ := bit u; clear u; have j : (Q55.l0b a0 p).bind _ = some O := j; unfold Q55.l0b at j
  ·refine sR 1 rfl (nT (At.seq ?_)); rcases bite j with ⟨J, j⟩ | ⟨J, j⟩
   ··refine At.condT rfl (decide_eq_true J) ?_
     refine At.skip (At.thn (At.seq ?_)); refine At.block ?_; refine sR 2 rfl (nT (sR 3 rfl ?_)); obtain ⟨D, j⟩ := bnone j; refine At.y (Y.ixRd hr0 rfl rfl rfl rfl rfl rfl rfl D.1 D.2) rfl rfl rfl (At.y (Y.ldFl hr0 rfl (q := 0) rfl rfl D.1 D.2 rfl rfl rfl) rfl rfl rfl ?_); obtain ⟨a6, a5, j⟩ := bbind j; refine At.call rfl Q130.callee rfl rfl rfl (Q130.spec a5) ?_; rintro _ _ ⟨rfl, rfl⟩; refine nT ?_; rcases bite j with ⟨L, j⟩ | ⟨L, j⟩
     ··refine At.condT rfl L ?_
       refine sR 2 rfl (nT (At.ret ?_)); refine At.ibr ?_; refine At.thr ?_; have j := bupL a1 U j; refine At.thr ?_; refine At.ibr ?_; refine At.thr ?_; cases bret j; exact At.res (.inl rfl) rfl rfl ⟨rfl, rfl⟩
     ··refine At.condF rfl (bn L) ?_
       refine At.skip ?_; refine At.ibn ?_; refine At.thn (At.region (At.run 2 rfl (At.nil ?_))); have j := bnx hf_ j; exact fun a w e hs => ⟨a3, (IntKind.i64.wrap (p + 1)), a4, j, e.sub ⟨rfl, rfl, rfl, rfl, trivial⟩, hs⟩
   ··refine At.condF rfl (decide_eq_false J) ?_
     refine At.exit ?_; refine At.the ?_; refine At.the ?_; exact fun a w e hs => a2 () (bdn j U) a w (e.sub trivial) hs

noncomputable def Q112.f (a0 : List Int) : Option Bool :=
 (Q55.f a0).bind fun p =>
 some (decide (0 ≤ p))
theorem Q112.callee : Callee Tryz.prog 50 := ⟨_, Tryz.func50, by kernel_rfl, by kernel_rfl⟩
theorem Q112.spec {a0 : List Int} (hr0 : RdS (Fl.int .i64).rep R.heap A0 a0) (hn0 : a0.length = n0) (hc0 : n0 ≤ c0) {r : Bool} (j : Q112.f a0 = some r) :
 Spec Tryz.prog 50 [.slice A0 n0 c0, .func (.func 196) #[] #[]] R (Fr) (fun v l' => v = .bool r ∧ Fr = l') := by
 subst hn0; refine Spec.of Tryz.func50 rfl rfl ?_; unfold Q112.f at j; have j := brun j; refine sR 1 rfl (nT (sR 2 rfl ?_)); obtain ⟨q, p, j⟩ := bbind j; refine At.call rfl Q55.callee rfl rfl rfl (Q55.spec hr0 rfl hc0 p) ?_; rintro _ _ ⟨rfl, rfl⟩; refine At.run 2 rfl (nT (At.ret ?_)); cases bret j; exact At.res (.inl rfl) rfl rfl ⟨rfl, rfl⟩

noncomputable def Q39.l0b (a0 : List Q9) (q : List Int) (p : Int) : Option (((List Int) × Int) ⊕ (((List Int)) ⊕ (Bool))) :=
 if p < (a0.length : Int) then
 if (0 : Int) ≤ p ∧ p < (a0.length : Int) then
 (Q115.f ((gt a0 p).Kind) ((gt a0 p).A) ((gt a0 p).B) ((gt a0 p).Name) ((gt a0 p).At)).bind fun u =>
 jn (
 if u.1 = true then
 some (.inl (decide ((q.length : Int) < u.2)))
 else
 some (.inl true)) (fun (D : Bool) =>
 if D = true then
 upL (some false)
 else
 if (0 : Int) ≤ u.2 ∧ u.2 ≤ (([((gt a0 p).A), ((gt a0 p).B)] : List Int).length : Int) then
 (Q112.f (([((gt a0 p).A), ((gt a0 p).B)] : List Int).drop u.2.toNat)).bind fun G =>
 jn (
 if G = true then
 some (.inl true)
 else
 if (0 : Int) ≤ IntKind.i64.wrap ((q.length : Int) - u.2) ∧ IntKind.i64.wrap ((q.length : Int) - u.2) ≤ (q.length : Int) then
 (Q42.f (q.drop (IntKind.i64.wrap ((q.length : Int) - u.2)).toNat) (([((gt a0 p).A), ((gt a0 p).B)] : List Int).take u.2.toNat)).bind fun I =>
 some (.inl (!I))
 else none) (fun (J : Bool) =>
 if J = true then
 upL (some false)
 else
 if (0 : Int) ≤ IntKind.i64.wrap ((q.length : Int) - u.2) ∧ IntKind.i64.wrap ((q.length : Int) - u.2) ≤ (q.length : Int) then
 if ((q.take (IntKind.i64.wrap ((q.length : Int) - u.2)).toNat).length + ([p] : List Int).length) * 8 ≤ 140737488355328 then
 nx (((q.take (IntKind.i64.wrap ((q.length : Int) - u.2)).toNat) ++ ([p] : List Int)), IntKind.i64.wrap (p + 1))
 else none
 else none)
 else none)
 else none
 else
 dn (.inl q)
noncomputable def Q39.l0 (a0 : List Q9) (p : List Int) (q : Int) : Option (((List Int)) ⊕ (Bool)) := iter (fun t_ : (List Int) × Int => Q39.l0b a0 t_.1 t_.2) (p, q)
noncomputable def Q39.f (a0 : List Q9) : Option Bool :=
 jn (
 if (a0.length : Int) < 1 then
 some (.inl true)
 else
 some (.inl (decide (60 < (a0.length : Int))))) (fun (p : Bool) =>
 if p = true then
 some false
 else
 jn (Q39.l0 a0 ([] : List Int) 0) (fun (q : List Int) =>
 some (decide ((q.length : Int) = 1))))
theorem Q39.callee : Callee Tryz.prog 153 := ⟨_, Tryz.func153, by kernel_rfl, by kernel_rfl⟩
theorem Q39.spec {a0 : List Q9} (hr0 : RdS Q9.fl.rep R.heap A0 a0) (hn0 : a0.length = n0) (hc0 : n0 ≤ c0) {r : Bool} (j : Q39.f a0 = some r) :
 Spec Tryz.prog 153 [.slice A0 n0 c0] R (Fr) (fun v l' => v = .bool r ∧ Fr = l') := by
 subst hn0; refine Spec.of Tryz.func153 rfl rfl ?_; unfold Q39.f at j; have j := brun j; refine sR 1 rfl (nT (At.seq (At.seq (At.region ?_)))); refine At.run 4 rfl ?_; obtain ⟨d8, d9, h3, j⟩ := bjoin j; refine At.joinO 4 (X := Bool) (fun G => [(0, .slice A0 a0.length c0), (16, .bool G)]) (fun G => Fr) (fun G => d8 (.inl G) = some r) ?_ (fun b8 => ?_)
 ·rintro G j; have j := (d9 _).symm.trans j
  ·refine nT ?_; rcases bite j with ⟨a2, j⟩ | ⟨a2, j⟩
   ··refine At.condT rfl a2 ?_
     refine sR 1 rfl (nT (At.ret (At.thr ?_))); cases bret j; exact At.res (.inl rfl) rfl rfl ⟨rfl, rfl⟩
   ··refine At.condF rfl (bn a2) ?_
     refine At.skip (At.thn (sR 1 rfl (nT (At.seq ?_)))); refine sR 3 rfl (nT ?_); refine At.block ?_; obtain ⟨e1, e2, b9, j⟩ := bjoin j; obtain ⟨O, a3, a4⟩ := bsome j; clear j; unfold Q39.l0 at a3; obtain ⟨a5, I⟩ := Q16.1 a3; clear a3; refine At.nilRow (Fl.int .i64) 3 ?_; refine At.loopJ (X := (List Int) × Int × Nat × (Option Addr) × Nat) (Y := (List Int) × Nat × (Option Addr) × Nat) (e0 := 0) (fun s_ => [(3, .slice s_.2.2.2.1 s_.2.2.1 s_.2.2.2.2), (17, .slice A0 a0.length c0), (18, i6 (a0.length : Int)), (19, i6 s_.2.1)]) (fun s_ => row (Fl.int .i64) 3 s_.2.2.2.1 s_.2.2.1 s_.2.2.2.2 s_.1 :: Fr) (fun m_ => fun s_ => iterN (fun t_ : (List Int) × Int => Q39.l0b a0 t_.1 t_.2) m_ (s_.1, s_.2.1) = some O ∧ s_.1.length = s_.2.2.1) a5 (([] : List Int), 0, 0, none, 0) ⟨I, rfl⟩ (fun s_ => [(3, .slice s_.2.2.1 s_.2.1 s_.2.2.2)]) (fun s_ => row (Fl.int .i64) 3 s_.2.2.1 s_.2.1 s_.2.2.2 s_.1 :: Fr) (fun s_ => e1 (.inl s_.1) = some r ∧ s_.1.length = s_.2.1) (fun a w e hs => ⟨e.sub ⟨rfl, rfl, rfl, rfl, trivial⟩, (by exact hs)⟩) ?_ (fun e3 => ?_)
     ·rintro ⟨e4, e5, h4, h5⟩ ⟨j, e6⟩; obtain rfl : e4.length = e5 := e6; have j := (e2 _).symm.trans j
      ·refine At.ibx ?_; refine At.thn (sR 4 rfl (nT (At.ret (At.drop .z ?_)))); cases bret j; exact At.res (.inl rfl) rfl rfl ⟨rfl, rfl⟩
     ·clear I a5; rintro a5 ⟨u, p, e7, U, V⟩ ⟨I, e8⟩; obtain rfl : u.length = e7 := e8; obtain ⟨e9, f_, f0, hf_, j⟩ := bit I; clear I; have j : (Q39.l0b a0 u p).bind _ = some O := j; unfold Q39.l0b at j
      ·refine sR 1 rfl (nT (At.seq ?_)); rcases bite j with ⟨a6, j⟩ | ⟨a6, j⟩
       ··refine At.condT rfl (decide_eq_true a6) ?_
         refine At.skip (At.thn (At.seq ?_)); refine At.block ?_; refine sR 1 rfl ?_; obtain ⟨Z, j⟩ := bnone j; refine At.y (Y.ixRd hr0 rfl rfl rfl rfl rfl rfl rfl Z.1 Z.2) rfl rfl rfl (At.y (Y.ldFl hr0 rfl (q := 0) rfl rfl Z.1 Z.2 rfl rfl rfl) rfl rfl rfl ?_); refine At.alloc rfl rfl rfl (fun c8 => ?_); refine At.run 1 rfl ?_; refine At.store rfl rfl rfl rfl .z rfl rfl rfl (.c (.c (.c (.c (.c .n))))) ?_; refine nT (At.seq (At.region (At.y (Y.load rfl rfl .z rfl rfl rfl) rfl rfl rfl ?_))); obtain ⟨D, f1, j⟩ := bbind j; refine At.call rfl Q115.callee rfl rfl rfl (Q115.spec f1) ?_; rintro _ _ ⟨rfl, rfl⟩; refine At.run 5 rfl (nT (At.seq (sR 3 rfl ?_))); obtain ⟨f2, f3, h6, j⟩ := bjoin j; let T2 : HProp := pc c8 [i6 ((gt a0 p).Kind), i6 ((gt a0 p).A), i6 ((gt a0 p).B), .string ⟨((gt a0 p).Name).toArray⟩, i6 ((gt a0 p).At)] 171; refine At.joinO 5 (X := Bool) (fun J => [(3, .slice U u.length V), (4, i6 p), (5, bp c8), (6, i6 D.2), (17, .slice A0 a0.length c0), (18, i6 (a0.length : Int)), (19, i6 p), (36, .bool J)]) (fun J => T2 :: row (Fl.int .i64) 3 U u.length V u :: Fr) (fun J => f2 (.inl J) = some O) ?_ (fun c9 => ?_)
         ·rintro J j; have j := (f3 _).symm.trans j
          ·refine nT ?_; rcases bite j with ⟨a7, j⟩ | ⟨a7, j⟩
           ··refine At.condT rfl a7 ?_
             refine sR 1 rfl (nT (At.ret (At.thr ?_))); refine At.ibr ?_; refine At.thr ?_; have j := bupL b9 a4 j; refine At.thr ?_; refine At.ibr ?_; refine At.thr (At.drop .z (At.drop .z ?_)); cases bret j; exact At.res (.inl rfl) rfl rfl ⟨rfl, rfl⟩
           ··refine At.condF rfl (bn a7) ?_
             refine At.skip (At.thn (sR 1 rfl (At.y (Y.load rfl rfl .z rfl rfl rfl) rfl rfl rfl (At.run 1 rfl (At.y (Y.load rfl rfl .z rfl rfl rfl) rfl rfl rfl ?_))))); refine At.lit rfl (xo := [.tmp 38, .tmp 40]) (ys := ([((gt a0 p).A), ((gt a0 p).B)] : List Int)) (Fl.int .i64) rfl rfl rfl rfl rfl rfl rfl rfl rfl rfl rfl (fun h7 f4 => ?_); refine At.run 1 rfl (nT (At.seq (At.seq ?_))); refine At.freeze .z fun h8 d0 a8 a9 h9 d1 => ?_; refine At.freeze (.s .z) fun d2 f5 f6 f7 d3 d4 => ?_; refine At.quiet (by kernel_rfl) ?_; refine At.Quiet.run 2 rfl ?_; obtain ⟨a1, j⟩ := bnone j; obtain ⟨k0, f8, f9, g0⟩ := Y.slFromAt (P := Tryz.prog) (R := d2) a8 d0 a9 a1.1 a1.2; refine At.Quiet.y (g0 rfl rfl rfl rfl rfl rfl) rfl rfl rfl ?_; obtain ⟨k1, g1, j⟩ := bbind j; refine At.Quiet.call rfl Q112.callee rfl rfl rfl (Q112.spec (RdS.mono d3 f8) rfl f9 g1) (fun _ _ h_ => ⟨h_.1, fun _ hs => h_.2 ▸ hs⟩) ?_; refine At.Quiet.run 1 rfl ?_; obtain ⟨g2, g3, k2, j⟩ := bjoin j; refine At.Quiet.joinO 12 (X := Bool) (fun L => [(3, .slice U u.length V), (4, i6 p), (6, i6 D.2), (17, .slice A0 a0.length c0), (18, i6 (a0.length : Int)), (19, i6 p), (58, .bool L)]) (fun L => T2 :: Fr) (fun L => g2 (.inl L) = some O) ?_ (fun d5 => ?_)
             ·rintro L j; have j := (g3 _).symm.trans j
              ·refine At.Quiet.nil (At.thn ?_); rcases bite j with ⟨b4, j⟩ | ⟨b4, j⟩
               ··refine At.condT rfl b4 ?_
                 refine sR 1 rfl (nT (At.ret (At.thr ?_))); refine At.ibr ?_; refine At.thr ?_; have j := bupL b9 a4 j; refine At.thr ?_; refine At.ibr ?_; refine At.thr ?_; refine At.thaw d4 ?_; refine At.thaw d1 ?_; refine At.drop .z (At.drop .z (At.drop .z ?_)); cases bret j; exact At.res (.inl rfl) rfl rfl ⟨rfl, rfl⟩
               ··refine At.condF rfl (bn b4) ?_
                 refine At.skip (At.thn (At.region (At.run 5 rfl ?_))); refine At.thaw d4 ?_; obtain ⟨d6, j⟩ := bnone j; refine At.cut rfl .z rfl rfl rfl rfl rfl d6.1 d6.2 rfl ?_; refine At.run 1 rfl ?_; refine At.lit rfl (xo := [.tmp 65]) (ys := ([p] : List Int)) (Fl.int .i64) rfl rfl rfl rfl rfl rfl rfl rfl rfl rfl rfl (fun k3 k4 => ?_); obtain ⟨g4, j⟩ := bnone j; refine At.append rfl (.s .z) (Src.own .z (by simp)) rfl rfl rfl rfl rfl rfl rfl rfl g4 (by decide) rfl (fun g5 g6 => ?_); refine At.drop (.s .z) (At.run 1 rfl (At.nil ?_)); refine At.ibn ?_; refine At.thn (At.region (At.run 2 rfl (At.nil ?_))); refine At.thaw d1 ?_; refine At.drop .z (At.drop (.s .z) ?_); have j := bnx hf_ j; exact fun a w e hs => ⟨e9, (((u.take (IntKind.i64.wrap ((u.length : Int) - D.2)).toNat) ++ ([p] : List Int)), IntKind.i64.wrap (p + 1), ((u.take (IntKind.i64.wrap ((u.length : Int) - D.2)).toNat) ++ ([p] : List Int)).length, g5, g6), f0, ⟨j, rfl⟩, e.sub ⟨rfl, rfl, rfl, rfl, trivial⟩, hs⟩
             ··rcases bite j with ⟨b5, j⟩ | ⟨b5, j⟩
               ··refine At.Quiet.know (t := 46) rfl b5 ?_
                 refine At.Quiet.run 12 rfl ?_; exact At.Quiet.of (d5 true j) ⟨rfl, rfl, rfl, rfl, rfl, rfl, rfl, trivial⟩
               ··refine At.Quiet.know (t := 46) rfl (bn b5) ?_
                 refine At.Quiet.run 5 rfl ?_; obtain ⟨d7, j⟩ := bnone j; obtain ⟨k5, g7, g8, g9⟩ := Y.slFromAt (P := Tryz.prog) (R := d2) f6 f5 f7 d7.1 d7.2; refine At.Quiet.y (g9 rfl rfl rfl rfl rfl rfl) rfl rfl rfl ?_; refine At.Quiet.run 2 rfl ?_; have h0 : (([((gt a0 p).A), ((gt a0 p).B)] : List Int).take D.2.toNat).length ≤ f4 := Nat.le_trans (List.length_take_le' _ _) (by have h1_ := (show ([((gt a0 p).A), ((gt a0 p).B)] : List Int).length = ([((gt a0 p).A), ((gt a0 p).B)] : List Int).length from a8); have h2_ := a9; omega); refine At.Quiet.y (Y.slTo a8 rfl rfl rfl rfl rfl a9 a1.1 a1.2) rfl rfl rfl ?_; obtain ⟨h1, h2, j⟩ := bbind j; refine At.Quiet.call rfl Q42.callee rfl rfl rfl (Q42.spec g7 rfl g8 (RdS.mono d3 (RdS.take d0 _)) rfl h0 h2) (fun _ _ h_ => ⟨h_.1, fun _ hs => h_.2 ▸ hs⟩) ?_; refine At.Quiet.run 2 rfl ?_; exact At.Quiet.of (d5 (!h1) j) ⟨rfl, rfl, rfl, rfl, rfl, rfl, rfl, trivial⟩
         ··rcases bite j with ⟨b6, j⟩ | ⟨b6, j⟩
           ··refine At.know (t := 31) rfl (nf b6) ?_
             refine At.run 5 rfl ?_; exact At.of (c9 (decide ((u.length : Int) < D.2)) j) ⟨rfl, rfl, rfl, rfl, rfl, rfl, rfl, rfl, trivial⟩
           ··refine At.know (t := 31) rfl (nt (bn b6)) ?_
             refine At.run 5 rfl ?_; exact At.of (c9 true j) ⟨rfl, rfl, rfl, rfl, rfl, rfl, rfl, rfl, trivial⟩
       ··refine At.condF rfl (decide_eq_false a6) ?_
         refine At.exit ?_; refine At.the ?_; refine At.the ?_; exact fun a w e hs => e3 (u, u.length, U, V) ⟨(bdn j a4), rfl⟩ a w (e.sub ⟨rfl, trivial⟩) hs
 ··rcases bite j with ⟨b7, j⟩ | ⟨b7, j⟩
   ··refine At.know (t := 12) rfl (decide_eq_true b7) ?_
     refine At.run 4 rfl ?_; exact At.of (b8 true j) ⟨rfl, rfl, trivial⟩
   ··refine At.know (t := 12) rfl (decide_eq_false b7) ?_
     refine At.run 4 rfl ?_; exact At.of (b8 (decide (60 < (a0.length : Int))) j) ⟨rfl, rfl, trivial⟩

noncomputable def Q53.l0b (u : List Q9) (q : List Q14) (a1 : Bs) (p : Int) : Option ((Int) ⊕ ((Unit) ⊕ (Bool × Int × Int))) :=
 if 0 ≤ p then
 if (0 : Int) ≤ p ∧ p < (q.length : Int) then
 if (0 : Int) ≤ (gt q p).node ∧ (gt q p).node < (u.length : Int) then
 if bseq ((gt u ((gt q p).node)).Name) a1 = true then
 upL (some (true, (gt q p).node, (gt q p).nots))
 else
 nx (IntKind.i64.wrap (p - 1))
 else none
 else none
 else
 dn (.inl ())
noncomputable def Q53.l0 (p : List Q9) (q : List Q14) (a1 : Bs) (u : Int) : Option ((Unit) ⊕ (Bool × Int × Int)) := iter (fun t_ : Int => Q53.l0b p q a1 t_) u
noncomputable def Q53.f (q : List Q9) (p : List Q14) (u : Int) (D : List Int) (G : List Bool) (I : List Int) (a1 : Bs) : Option (Bool × Int × Int) :=
 jn (Q53.l0 q p a1 (IntKind.i64.wrap ((p.length : Int) - 1))) (fun (_ : Unit) =>
 some (false, 0, 0))
theorem Q53.callee : Callee Tryz.prog 215 := ⟨_, Tryz.func215, by kernel_rfl, by kernel_rfl⟩
theorem Q53.spec {L : List Q9} {p : List Q14} {V : Int} {D G : List Int} {I : List Bool} {a1 : Bs} (hr0_0 : RdS Q9.fl.rep R.heap A0_0 L) (hn0_0 : L.length = n0_0) (hc0_0 : n0_0 ≤ c0_0) (hn0_1 : p.length = n0_1) (hn0_3 : D.length = n0_3) (hn0_4 : I.length = n0_4) (hn0_5 : G.length = n0_5) {r : Bool × Int × Int} (j : Q53.f L p V D I G a1 = some r) :
 Spec Tryz.prog 215 [bp b0, .string ⟨(a1).toArray⟩] R (pc b0 [.slice A0_0 n0_0 c0_0, .slice A0_1 n0_1 c0_1, i6 V, .slice A0_3 n0_3 c0_3, .slice A0_4 n0_4 c0_4, .slice A0_5 n0_5 c0_5] 225 :: row Q14.fl 272 A0_1 n0_1 c0_1 p :: row (Fl.int .i64) 3 A0_3 n0_3 c0_3 D :: row Fl.bool 4 A0_4 n0_4 c0_4 I :: row (Fl.int .i64) 3 A0_5 n0_5 c0_5 G :: Fr) (fun v l' => v = .tuple #[.agg #[i6 r.2.1, i6 r.2.2], .bool r.1] ∧ pc b0 [.slice A0_0 n0_0 c0_0, .slice A0_1 n0_1 c0_1, i6 V, .slice A0_3 n0_3 c0_3, .slice A0_4 n0_4 c0_4, .slice A0_5 n0_5 c0_5] 225 :: row Q14.fl 272 A0_1 n0_1 c0_1 p :: row (Fl.int .i64) 3 A0_3 n0_3 c0_3 D :: row Fl.bool 4 A0_4 n0_4 c0_4 I :: row (Fl.int .i64) 3 A0_5 n0_5 c0_5 G :: Fr = l') := by
 subst hn0_0; subst hn0_1; subst hn0_3; subst hn0_4; subst hn0_5; refine Spec.of Tryz.func215 rfl rfl ?_; unfold Q53.f at j; have j := brun j; refine At.seq (At.region ?_); refine At.alloc rfl rfl rfl (fun Z => ?_); refine At.run 1 rfl (nT (At.seq (sR 3 rfl (At.y (Y.load rfl rfl (.s .z) rfl rfl rfl) rfl rfl rfl ?_)))); refine At.run 3 rfl (nT ?_); refine At.block ?_; obtain ⟨a7, a8, a9, j⟩ := bjoin j; obtain ⟨a5, a0, a6⟩ := bsome j; clear j; unfold Q53.l0 at a0; obtain ⟨a2, U⟩ := Q16.1 a0; clear a0; let T3 : HProp := pt Z (.cells ([i6 0, i6 0] : List Value).toArray 272); let T4 : HProp := pc b0 [.slice A0_0 L.length c0_0, .slice A0_1 p.length c0_1, i6 V, .slice A0_3 D.length c0_3, .slice A0_4 I.length c0_4, .slice A0_5 G.length c0_5] 225; let T5 : HProp := row Q14.fl 272 A0_1 p.length c0_1 p; let T6 : HProp := row (Fl.int .i64) 3 A0_3 D.length c0_3 D; let T7 : HProp := row Fl.bool 4 A0_4 I.length c0_4 I; let T8 : HProp := row (Fl.int .i64) 3 A0_5 G.length c0_5 G; refine At.loopJ (X := Int) (Y := Unit) (e0 := 0) (fun J => [(0, bp b0), (1, .string ⟨(a1).toArray⟩), (4, bp Z), (6, i6 J)]) (fun J => T3 :: T4 :: T5 :: T6 :: T7 :: T8 :: Fr) (fun m_ => fun J => iterN (fun t_ : Int => Q53.l0b L p a1 t_) m_ J = some a5) a2 (IntKind.i64.wrap ((p.length : Int) - 1)) U (fun _ => [(4, bp Z)]) (fun _ => T3 :: T4 :: T5 :: T6 :: T7 :: T8 :: Fr) (fun _ => a7 (.inl ()) = some r) (fun a w e hs => ⟨e.sub ⟨rfl, rfl, rfl, rfl, trivial⟩, (by exact hs)⟩) ?_ (fun b4 => ?_)
 ·rintro _ j; have j := (a8 _).symm.trans j
  ·refine At.ibx ?_; refine At.thn (At.seq (At.region ?_)); refine At.y (Y.build (is := []) (xo := []) (vs := []) (cs := [i6 0, i6 0]) rfl rfl rfl rfl rfl rfl) rfl rfl rfl ?_; refine At.store rfl rfl rfl rfl .z rfl rfl rfl (.c (.c .n)) ?_; refine At.run 1 rfl (nT (At.ret ?_)); refine At.resM (.inl rfl) rfl (RV.cell rfl rfl .z rfl rfl rfl (RV.tmp rfl RV.nil)) ?_; refine At.drop .z ?_; cases bret j; exact fun a w e hs => ⟨_, ⟨rfl, rfl⟩, hs⟩
 ·clear U a2; rintro a2 J U; obtain ⟨b5, f_, b6, hf_, j⟩ := bit U; clear U; have j : (Q53.l0b L p a1 J).bind _ = some a5 := j; unfold Q53.l0b at j
  ·refine At.seq (sR 2 rfl (nT ?_)); rcases bite j with ⟨a3, j⟩ | ⟨a3, j⟩
   ··refine At.condT rfl (decide_eq_true a3) ?_
     refine At.skip (At.thn (At.seq ?_)); refine At.block ?_; refine At.seq ?_; refine At.quiet (by kernel_rfl) ?_; refine At.Quiet.run 3 rfl ?_; refine At.Quiet.y (Y.load rfl rfl (.s .z) rfl rfl rfl) rfl rfl rfl ?_; refine At.Quiet.run 3 rfl ?_; refine At.Quiet.y (Y.load rfl rfl (.s .z) rfl rfl rfl) rfl rfl rfl ?_; refine At.Quiet.run 1 rfl ?_; obtain ⟨u, j⟩ := bnone j; refine At.Quiet.y (Y.ix (.s (.s .z)) rfl rfl rfl rfl rfl rfl u.1 u.2) rfl rfl rfl ?_; refine At.Quiet.y (Y.faOwn (.s (.s .z)) u.1 u.2 rfl rfl rfl rfl rfl rfl) rfl rfl rfl ?_; refine At.Quiet.y (Y.ld (.s (.s .z)) (q := 0) rfl rfl u.1 u.2 rfl rfl rfl) rfl rfl rfl ?_; obtain ⟨O, j⟩ := bnone j; refine At.Quiet.y (Y.ixRd hr0_0 rfl rfl rfl rfl rfl rfl rfl O.1 O.2) rfl rfl rfl ?_; refine At.Quiet.y (Y.fa (RdS.some_ hr0_0 rfl O.1 O.2) rfl rfl rfl rfl rfl rfl) rfl rfl rfl ?_; refine At.Quiet.y (Y.ldFl hr0_0 rfl (q := 3) rfl rfl O.1 O.2 rfl rfl rfl) rfl rfl rfl ?_; refine At.Quiet.run 2 rfl (At.Quiet.nil (At.thn ?_)); rcases bite j with ⟨a4, j⟩ | ⟨a4, j⟩
     ··refine At.condT rfl a4 ?_
       refine sR 3 rfl (At.y (Y.load rfl rfl (.s .z) rfl rfl rfl) rfl rfl rfl (At.run 1 rfl (At.y (Y.ix (.s (.s .z)) rfl rfl rfl rfl rfl rfl u.1 u.2) rfl rfl rfl (At.y (Y.ld (.s (.s .z)) (q := 0) rfl rfl u.1 u.2 rfl rfl rfl) rfl rfl rfl ?_)))); refine At.store rfl rfl rfl rfl .z rfl rfl rfl (.c (.c .n)) ?_; refine At.run 1 rfl (nT (At.ret ?_)); refine At.ibr ?_; refine At.thr ?_; have j := bupL a9 a6 j; refine At.thr ?_; refine At.ibr ?_; refine At.thr ?_; refine At.resM (.inl rfl) rfl (RV.cell rfl rfl .z rfl rfl rfl (RV.tmp rfl RV.nil)) ?_; refine At.drop .z ?_; cases bret j; exact fun a w e hs => ⟨_, ⟨rfl, rfl⟩, hs⟩
     ··refine At.condF rfl (bn a4) ?_
       refine At.skip ?_; refine At.ibn ?_; refine At.thn (At.region (At.run 3 rfl (At.nil ?_))); have j := bnx hf_ j; exact fun a w e hs => ⟨b5, (IntKind.i64.wrap (J - 1)), b6, j, e.sub ⟨rfl, rfl, rfl, rfl, trivial⟩, hs⟩
   ··refine At.condF rfl (decide_eq_false a3) ?_
     refine At.exit ?_; refine At.the ?_; refine At.the ?_; exact fun a w e hs => b4 () (bdn j a6) a w (e.sub ⟨rfl, trivial⟩) hs

noncomputable def Q25.g (self_ : (List Q9) → (List Q14) → Int → (List Int) → (List Bool) → (List Int) → Int → Option ((List Bool) × (List Int) × (List Q14) × (List Int) × Int)) (p : List Q9) (G : List Q14) (u : Int) (I : List Int) (J : List Bool) (q : List Int) (a1 : Int) : Option ((List Bool) × (List Int) × (List Q14) × (List Int) × Int) :=
 if (0 : Int) ≤ a1 ∧ a1 < (p.length : Int) then
 if (gt p a1).Kind = 4 then
 (Q53.f p G u I J q ((gt p a1).Name)).bind fun X =>
 if X.1 = true then
 if (0 : Int) ≤ a1 ∧ a1 < (I.length : Int) then
 if (0 : Int) ≤ a1 ∧ a1 < (J.length : Int) then
 some ((st J a1 (!(decide ((Int.tmod (IntKind.i64.wrap (u - X.2.2)) 2) = 0)))), (st I a1 X.2.1), G, q, u)
 else none
 else none
 else
 some (J, I, G, q, u)
 else
 if (gt p a1).Kind = 5 then
 (self_ p G (IntKind.i64.wrap (u + 1)) I J q ((gt p a1).A)).bind fun O =>
 if (0 : Int) ≤ (gt p a1).A ∧ (gt p a1).A < (q.length : Int) then
 if (0 : Int) ≤ a1 ∧ a1 < (q.length : Int) then
 some (O.1, O.2.1, O.2.2.1, (st O.2.2.2.1 a1 (gt O.2.2.2.1 ((gt p a1).A))), IntKind.i64.wrap (O.2.2.2.2 - 1))
 else none
 else none
 else
 jn (
 if (gt p a1).Kind = 8 then
 some (.inl (decide ((gt p a1).Kind = 8)))
 else
 some (.inl (decide ((gt p a1).Kind = 9)))) (fun (Z : Bool) =>
 if Z = true then
 (self_ p G u I J q ((gt p a1).A)).bind fun U =>
 if (0 : Int) ≤ (gt p a1).A ∧ (gt p a1).A < (q.length : Int) then
 if (0 : Int) ≤ a1 ∧ a1 < (q.length : Int) then
 some (U.1, U.2.1, U.2.2.1, (st U.2.2.2.1 a1 (gt U.2.2.2.1 ((gt p a1).A))), U.2.2.2.2)
 else none
 else none
 else
 jn (
 if (gt p a1).Kind = 6 then
 some (.inl (decide ((gt p a1).Kind = 6)))
 else
 some (.inl (decide ((gt p a1).Kind = 7)))) (fun (a0 : Bool) =>
 if a0 = true then
 (self_ p G u I J q ((gt p a1).A)).bind fun V =>
 (self_ p V.2.2.1 V.2.2.2.2 V.2.1 V.1 V.2.2.2.1 ((gt p a1).B)).bind fun L =>
 if (0 : Int) ≤ (gt p a1).A ∧ (gt p a1).A < (q.length : Int) then
 if (0 : Int) ≤ (gt p a1).B ∧ (gt p a1).B < (q.length : Int) then
 if (0 : Int) ≤ a1 ∧ a1 < (q.length : Int) then
 some (L.1, L.2.1, L.2.2.1, (st L.2.2.2.1 a1 (if gt L.2.2.2.1 ((gt p a1).A) < gt L.2.2.2.1 ((gt p a1).B) then gt L.2.2.2.1 ((gt p a1).B) else gt L.2.2.2.1 ((gt p a1).A))), L.2.2.2.2)
 else none
 else none
 else none
 else
 jn (
 if (gt p a1).Kind = 10 then
 some (.inl (decide ((gt p a1).Kind = 10)))
 else
 some (.inl (decide ((gt p a1).Kind = 11)))) (fun (a2 : Bool) =>
 if a2 = true then
 if (G.length + ([(⟨a1, u⟩ : Q14)] : List Q14).length) * 16 ≤ 140737488355328 then
 (self_ p (G ++ ([(⟨a1, u⟩ : Q14)] : List Q14)) u I J q ((gt p a1).A)).bind fun D =>
 if (0 : Int) ≤ IntKind.i64.wrap ((D.2.2.1.length : Int) - 1) ∧ IntKind.i64.wrap ((D.2.2.1.length : Int) - 1) ≤ (D.2.2.1.length : Int) then
 if (0 : Int) ≤ (gt p a1).A ∧ (gt p a1).A < (q.length : Int) then
 if (0 : Int) ≤ a1 ∧ a1 < (q.length : Int) then
 some (D.1, D.2.1, (D.2.2.1.take (IntKind.i64.wrap ((D.2.2.1.length : Int) - 1)).toNat), (st D.2.2.2.1 a1 (IntKind.i64.wrap (gt D.2.2.2.1 ((gt p a1).A) + 1))), D.2.2.2.2)
 else none
 else none
 else none
 else none
 else
 some (J, I, G, q, u))))
 else none
noncomputable def Q25.n : Nat → (List Q9) → (List Q14) → Int → (List Int) → (List Bool) → (List Int) → Int → Option ((List Bool) × (List Int) × (List Q14) × (List Int) × Int)
 | 0, _, _, _, _, _, _, _ => none
 | k_ + 1, a0_0, a0_1, a0_2, a0_3, a0_4, a0_5, a1 => Q25.g (Q25.n k_) a0_0 a0_1 a0_2 a0_3 a0_4 a0_5 a1
noncomputable def Q25.f (p : List Q9) (q : List Q14) (u : Int) (D : List Int) (G : List Bool) (I : List Int) (a1 : Int) : Option ((List Bool) × (List Int) × (List Q14) × (List Int) × Int) := recF fun k_ => Q25.n k_ p q u D G I a1
theorem Q25.callee : Callee Tryz.prog 197 := ⟨_, Tryz.func197, by kernel_rfl, by kernel_rfl⟩
theorem Q25.specN (k_ : Nat) : ∀ (R : Res) (Fr : List HProp) (b0 : Nat) (A0_0 : Option Addr) (n0_0 : Nat) (c0_0 : Nat) (A0_1 : Option Addr) (n0_1 : Nat) (c0_1 : Nat) (A0_3 : Option Addr) (n0_3 : Nat) (c0_3 : Nat) (A0_4 : Option Addr) (n0_4 : Nat) (c0_4 : Nat) (A0_5 : Option Addr) (n0_5 : Nat) (c0_5 : Nat) (p : List Q9) (I : List Q14) (J : Int) (D : List Int) (G : List Bool) (u : List Int) (a1 : Int) (hr0_0 : RdS Q9.fl.rep R.heap A0_0 p) (hn0_0 : p.length = n0_0) (hc0_0 : n0_0 ≤ c0_0) (hn0_1 : I.length = n0_1) (hn0_3 : D.length = n0_3) (hn0_4 : G.length = n0_4) (hn0_5 : u.length = n0_5) {r : (List Bool) × (List Int) × (List Q14) × (List Int) × Int} (j : Q25.n k_ p I J D G u a1 = some r),
 Spec Tryz.prog 197 [bp b0, i6 a1] R (pc b0 [.slice A0_0 n0_0 c0_0, .slice A0_1 n0_1 c0_1, i6 J, .slice A0_3 n0_3 c0_3, .slice A0_4 n0_4 c0_4, .slice A0_5 n0_5 c0_5] 225 :: row Q14.fl 272 A0_1 n0_1 c0_1 I :: row (Fl.int .i64) 3 A0_3 n0_3 c0_3 D :: row Fl.bool 4 A0_4 n0_4 c0_4 G :: row (Fl.int .i64) 3 A0_5 n0_5 c0_5 u :: Fr) (fun v l' => ∃ (c9 : Nat) (e4 : Option Addr) (e5 : Nat), v = .tuple #[] ∧ pc b0 [.slice A0_0 n0_0 c0_0, .slice e4 c9 e5, i6 r.2.2.2.2, .slice A0_3 n0_3 c0_3, .slice A0_4 n0_4 c0_4, .slice A0_5 n0_5 c0_5] 225 :: row Q14.fl 272 e4 c9 e5 r.2.2.1 :: row (Fl.int .i64) 3 A0_3 n0_3 c0_3 r.2.1 :: row Fl.bool 4 A0_4 n0_4 c0_4 r.1 :: row (Fl.int .i64) 3 A0_5 n0_5 c0_5 r.2.2.2.1 :: Fr = l' ∧ r.2.2.1.length = c9) := by
 induction k_ with
 | zero => intro R Fr b0 A0_0 n0_0 c0_0 A0_1 n0_1 c0_1 A0_3 n0_3 c0_3 A0_4 n0_4 c0_4 A0_5 n0_5 c0_5 p I J D G u a1 hr0_0 hn0_0 hc0_0 hn0_1 hn0_3 hn0_4 hn0_5 r j; cases j
 | succ k_ ih =>
  intro R Fr b0 A0_0 n0_0 c0_0 A0_1 n0_1 c0_1 A0_3 n0_3 c0_3 A0_4 n0_4 c0_4 A0_5 n0_5 c0_5 p I J D G u a1 hr0_0 hn0_0 hc0_0 hn0_1 hn0_3 hn0_4 hn0_5 r j; have j : Q25.g (Q25.n k_) p I J D G u a1 = some r := j; generalize Q25.n k_ = self_ at ih j; subst hn0_0; subst hn0_1; subst hn0_3; subst hn0_4; subst hn0_5; refine Spec.of Tryz.func197 rfl rfl ?_; unfold Q25.g at j; have j := brun j; refine sR 3 rfl (At.y (Y.load rfl rfl .z rfl rfl rfl) rfl rfl rfl (At.run 1 rfl ?_)); obtain ⟨a3, j⟩ := bnone j; refine At.y (Y.ixRd hr0_0 rfl rfl rfl rfl rfl rfl rfl a3.1 a3.2) rfl rfl rfl (At.y (Y.ldFl hr0_0 rfl (q := 0) rfl rfl a3.1 a3.2 rfl rfl rfl) rfl rfl rfl ?_); refine At.alloc rfl rfl rfl (fun O => ?_); refine At.store rfl rfl rfl rfl .z rfl rfl rfl (.c (.c (.c (.c (.c .n))))) ?_; refine nT (sR 1 rfl (At.y (Y.load rfl rfl .z rfl rfl rfl) rfl rfl rfl (nT ?_))); refine At.block ?_; refine sR 2 rfl (nT ?_); rcases bite j with ⟨d0, j⟩ | ⟨d0, j⟩
  ··refine At.condT rfl (decide_eq_true d0) ?_
    refine sR 2 rfl (At.y (Y.load rfl rfl .z rfl rfl rfl) rfl rfl rfl (At.f5 (At.f5 (At.f5 (At.f5 ?_))))); refine At.f5 ?_; obtain ⟨a4, f6, j⟩ := bbind j; refine At.call rfl Q53.callee rfl rfl rfl (Q53.spec hr0_0 rfl hc0_0 rfl rfl rfl rfl f6) ?_; rintro _ _ ⟨rfl, rfl⟩; refine At.run 3 rfl ?_; refine At.alloc rfl rfl rfl (fun f7 => ?_); refine At.store rfl rfl rfl rfl .z rfl rfl rfl (.c (.c .n)) ?_; refine At.run 1 rfl (nT (sR 1 rfl (nT ?_))); rcases bite j with ⟨d1, j⟩ | ⟨d1, j⟩
    ··refine At.condT rfl d1 ?_
      refine At.held [pc f7 [i6 a4.2.1, i6 a4.2.2] 272, pc b0 [.slice A0_0 p.length c0_0, .slice A0_1 I.length c0_1, i6 J, .slice A0_3 D.length c0_3, .slice A0_4 G.length c0_4, .slice A0_5 u.length c0_5] 225, row Q14.fl 272 A0_1 I.length c0_1 I, row (Fl.int .i64) 3 A0_5 u.length c0_5 u, pc O [i6 ((gt p a1).Kind), i6 ((gt p a1).A), i6 ((gt p a1).B), .string ⟨((gt p a1).Name).toArray⟩, i6 ((gt p a1).At)] 171] 25 rfl ?_; refine At.H.pw 0 rfl rfl rfl rfl rfl (.c .z (.c .z (.c .z (.c (.s (.s .z)) (.c (.s (.s .z)) .n))))) ?_; refine At.H.pw 1 rfl rfl rfl rfl rfl (.c .z (.c .z (.c .z (.c (.s (.s .z)) (.c (.s (.s .z)) .n))))) ?_; refine At.H.pw 2 rfl rfl rfl rfl rfl (.c .z (.c .z (.c .z (.c (.s (.s .z)) (.c (.s (.s .z)) .n))))) ?_; refine At.H.tw 3 rfl (Y.load rfl rfl (.s .z) rfl rfl rfl) rfl rfl rfl (.c .z (.c .z (.c .z (.c (.s (.s .z)) (.c (.s (.s .z)) .n))))) ?_; refine At.H.pw 4 rfl rfl rfl rfl rfl (.c .z (.c .z (.c .z (.c (.s (.s .z)) (.c (.s (.s .z)) .n))))) ?_; refine At.H.pw 5 rfl rfl rfl rfl rfl (.c .z (.c .z (.c .z (.c (.s (.s .z)) (.c (.s (.s .z)) .n))))) ?_; refine At.H.pw 6 rfl rfl rfl rfl rfl (.c .z (.c .z (.c .z (.c (.s (.s .z)) (.c (.s (.s .z)) .n))))) ?_; refine At.H.pw 7 rfl rfl rfl rfl rfl (.c .z (.c .z (.c .z (.c (.s (.s .z)) (.c (.s (.s .z)) .n))))) ?_; refine At.H.tw 8 rfl (Y.load rfl rfl (.s .z) rfl rfl rfl) rfl rfl rfl (.c .z (.c .z (.c .z (.c (.s (.s .z)) (.c (.s (.s .z)) .n))))) ?_; refine At.H.pw 9 rfl rfl rfl rfl rfl (.c .z (.c .z (.c .z (.c (.s (.s .z)) (.c (.s (.s .z)) .n))))) ?_; refine At.H.pw 10 rfl rfl rfl rfl rfl (.c .z (.c .z (.c .z (.c (.s (.s .z)) (.c (.s (.s .z)) .n))))) ?_; refine At.H.tw 11 rfl (Y.load rfl rfl .z rfl rfl rfl) rfl rfl rfl (.c .z (.c .z (.c .z (.c (.s (.s .z)) (.c (.s (.s .z)) .n))))) ?_; refine At.H.pw 12 rfl rfl rfl rfl rfl (.c .z (.c .z (.c .z (.c (.s (.s .z)) (.c (.s (.s .z)) .n))))) ?_; refine At.H.pw 13 rfl rfl rfl rfl rfl (.c .z (.c .z (.c .z (.c (.s (.s .z)) (.c (.s (.s .z)) .n))))) ?_; refine At.H.pw 14 rfl rfl rfl rfl rfl (.c .z (.c .z (.c .z (.c (.s (.s .z)) (.c (.s (.s .z)) .n))))) ?_; refine At.H.tw 15 rfl (Y.load rfl rfl (.s .z) rfl rfl rfl) rfl rfl rfl (.c .z (.c .z (.c .z (.c (.s (.s .z)) (.c (.s (.s .z)) .n))))) ?_; refine At.H.pw 16 rfl rfl rfl rfl rfl (.c .z (.c .z (.c .z (.c (.s (.s .z)) (.c (.s (.s .z)) .n))))) ?_; refine At.H.tw 17 rfl (Y.load rfl rfl .z rfl rfl rfl) rfl rfl rfl (.c .z (.c .z (.c .z (.c (.s (.s .z)) (.c (.s (.s .z)) .n))))) ?_; refine At.H.pw 18 rfl rfl rfl rfl rfl (.c .z (.c .z (.c .z (.c (.s (.s .z)) (.c (.s (.s .z)) .n))))) ?_; refine At.H.tw 19 rfl (Y.rem rfl rfl (by decide)) rfl rfl rfl (.c .z (.c .z (.c .z (.c (.s (.s .z)) (.c (.s (.s .z)) .n))))) ?_; refine At.H.pw 20 rfl rfl rfl rfl rfl (.c .z (.c .z (.c .z (.c (.s (.s .z)) (.c (.s (.s .z)) .n))))) ?_; refine At.H.al [21] (Q4 ?_ Q6)
      ··refine At.HO.op rfl ?_
        obtain ⟨a5, j⟩ := bnone j; refine At.y (Y.ix (.s (.s (.s .z))) rfl rfl rfl rfl rfl rfl a5.1 a5.2) rfl rfl rfl ?_; refine At.HO.back (.c .z (.c .z (.c .z (.c (.s (.s .z)) (.c (.s (.s .z)) .n))))) ?_; refine At.H.al [22] (Q4 ?_ Q6)
        ··refine At.HO.op rfl ?_
          refine At.st rfl (.s (.s (.s .z))) (q := 0) (z := a4.2.1) rfl rfl rfl a5.1 a5.2 rfl rfl (.c .n) ?_; refine At.HO.back (.c (.s .z) (.c (.s .z) (.c (.s .z) (.c (.s (.s .z)) (.c (.s (.s .z)) .n))))) ?_; refine At.H.al [23] (Q4 ?_ Q6)
          ··refine At.HO.op rfl ?_
            obtain ⟨a6, j⟩ := bnone j; refine At.y (Y.ix (.s (.s (.s (.s .z)))) rfl rfl rfl rfl rfl rfl a6.1 a6.2) rfl rfl rfl ?_; refine At.HO.back (.c (.s .z) (.c (.s .z) (.c (.s .z) (.c (.s (.s .z)) (.c (.s (.s .z)) .n))))) ?_; refine At.H.al [24] (Q4 ?_ Q6)
            ··refine At.HO.op rfl ?_
              refine At.st rfl (.s (.s (.s (.s .z)))) (q := 0) (z := (!(decide ((Int.tmod (IntKind.i64.wrap (J - a4.2.2)) 2) = 0)))) rfl rfl rfl a6.1 a6.2 rfl rfl (.c .n) ?_; refine At.HO.back (.c (.s (.s .z)) (.c (.s (.s .z)) (.c (.s (.s .z)) (.c (.s (.s .z)) (.c (.s (.s .z)) .n))))) ?_; refine At.H.done (by kernel_rfl) ?_; refine At.ibn ?_; refine At.drop (.s (.s .z)) (At.drop (.s (.s (.s (.s (.s .z))))) (At.f4 (At.f1 (At.f2 (At.f4 (At.f4 ?_)))))); cases bret j; exact At.res (.inr rfl) rfl rfl ⟨I.length, A0_1, c0_1, rfl, rfl, rfl⟩
    ··refine At.condF rfl (bn d1) ?_
      refine At.skip ?_; refine At.ibn ?_; refine At.drop .z (At.drop (.s (.s (.s (.s (.s .z))))) ?_); cases bret j; exact At.res (.inr rfl) rfl rfl ⟨I.length, A0_1, c0_1, rfl, rfl, rfl⟩
  ··refine At.condF rfl (decide_eq_false d0) ?_
    refine sR 2 rfl (nT ?_); rcases bite j with ⟨d2, j⟩ | ⟨d2, j⟩
    ··refine At.condT rfl (decide_eq_true d2) ?_
      refine sR 3 rfl (At.y (Y.load rfl rfl (.s .z) rfl rfl rfl) rfl rfl rfl (At.run 3 rfl ?_)); refine At.store rfl rfl rfl rfl (.s .z) rfl rfl rfl (.s (.s (.c .n))) ?_; refine nT (sR 2 rfl (At.y (Y.load rfl rfl (.s .z) rfl rfl rfl) rfl rfl rfl (At.f5 (At.f5 ?_)))); refine At.f5 (At.f5 (At.f4 ?_)); obtain ⟨e6, f8, j⟩ := bbind j; refine At.call rfl Q25.callee rfl rfl rfl (ih _ _ b0 A0_0 p.length c0_0 A0_1 I.length c0_1 A0_3 D.length c0_3 A0_4 G.length c0_4 A0_5 u.length c0_5 p I (IntKind.i64.wrap (J + 1)) D G u ((gt p a1).A) hr0_0 rfl hc0_0 rfl rfl rfl rfl f8) ?_; rintro _ _ ⟨l7, f9, g0, rfl, rfl, rfl⟩; refine nT (sR 3 rfl (At.y (Y.load rfl rfl .z rfl rfl rfl) rfl rfl rfl (At.run 3 rfl ?_))); refine At.store rfl rfl rfl rfl .z rfl rfl rfl (.s (.s (.c .n))) ?_; refine nT ?_; refine At.still 14 (by kernel_rfl) ?_; refine At.Still.run 3 rfl ?_; refine At.Still.y (Y.load rfl rfl .z rfl rfl rfl) rfl rfl rfl ?_; refine At.Still.run 4 rfl ?_; refine At.Still.y (Y.load rfl rfl .z rfl rfl rfl) rfl rfl rfl ?_; refine At.Still.run 1 rfl ?_; refine At.Still.y (Y.load rfl rfl (.s (.s (.s (.s (.s .z))))) rfl rfl rfl) rfl rfl rfl ?_; obtain ⟨a7, j⟩ := bnone j; refine At.Still.y (Y.ix (.s (.s (.s (.s .z)))) rfl rfl rfl rfl rfl rfl a7.1 a7.2) rfl rfl rfl ?_; refine At.Still.y (Y.ld (.s (.s (.s (.s .z)))) (q := 0) rfl rfl a7.1 a7.2 rfl rfl rfl) rfl rfl rfl ?_; obtain ⟨a8, j⟩ := bnone j; refine At.Still.y (Y.ix (.s (.s (.s (.s .z)))) rfl rfl rfl rfl rfl rfl a8.1 a8.2) rfl rfl rfl ?_; refine At.Still.nil ?_; refine At.st rfl (.s (.s (.s (.s .z)))) (q := 0) (z := (gt e6.2.2.2.1 ((gt p a1).A))) rfl rfl rfl a8.1 a8.2 rfl rfl (.c .n) ?_; refine At.nil ?_; refine At.ibn ?_; refine At.drop (.s (.s (.s (.s (.s .z))))) (At.f4 (At.f4 (At.f4 (At.f4 ?_)))); cases bret j; exact At.res (.inr rfl) rfl rfl ⟨e6.2.2.1.length, f9, g0, rfl, rfl, rfl⟩
    ··refine At.condF rfl (decide_eq_false d2) ?_
      refine At.seq (sR 2 rfl (nT ?_)); obtain ⟨g1, g2, l8, j⟩ := bjoin j; let T9 : HProp := pc O [i6 ((gt p a1).Kind), i6 ((gt p a1).A), i6 ((gt p a1).B), .string ⟨((gt p a1).Name).toArray⟩, i6 ((gt p a1).At)] 171; let d3 : HProp := pc b0 [.slice A0_0 p.length c0_0, .slice A0_1 I.length c0_1, i6 J, .slice A0_3 D.length c0_3, .slice A0_4 G.length c0_4, .slice A0_5 u.length c0_5] 225; refine At.join (X := Bool) (fun V => [(0, bp b0), (1, i6 a1), (4, bp O), (15, i6 ((gt p a1).Kind)), (83, .bool V)]) (fun V => T9 :: d3 :: row Q14.fl 272 A0_1 I.length c0_1 I :: row (Fl.int .i64) 3 A0_3 D.length c0_3 D :: row Fl.bool 4 A0_4 G.length c0_4 G :: row (Fl.int .i64) 3 A0_5 u.length c0_5 u :: Fr) (fun V => g1 (.inl V) = some r) ?_ (fun e7 => ?_)
      ·rintro V j; have j := (g2 _).symm.trans j
       ·rcases bite j with ⟨d4, j⟩ | ⟨d4, j⟩
        ··refine At.condT rfl d4 ?_
          refine sR 2 rfl (At.y (Y.load rfl rfl .z rfl rfl rfl) rfl rfl rfl (At.f5 (At.f5 (At.f5 (At.f5 ?_))))); refine At.f5 ?_; obtain ⟨e8, g3, j⟩ := bbind j; refine At.call rfl Q25.callee rfl rfl rfl (ih _ _ b0 A0_0 p.length c0_0 A0_1 I.length c0_1 A0_3 D.length c0_3 A0_4 G.length c0_4 A0_5 u.length c0_5 p I J D G u ((gt p a1).A) hr0_0 rfl hc0_0 rfl rfl rfl rfl g3) ?_; rintro _ _ ⟨l9, g4, g5, rfl, rfl, rfl⟩; refine nT ?_; refine At.still 14 (by kernel_rfl) ?_; refine At.Still.run 3 rfl ?_; refine At.Still.y (Y.load rfl rfl .z rfl rfl rfl) rfl rfl rfl ?_; refine At.Still.run 4 rfl ?_; refine At.Still.y (Y.load rfl rfl .z rfl rfl rfl) rfl rfl rfl ?_; refine At.Still.run 1 rfl ?_; refine At.Still.y (Y.load rfl rfl (.s (.s (.s (.s (.s .z))))) rfl rfl rfl) rfl rfl rfl ?_; obtain ⟨a9, j⟩ := bnone j; refine At.Still.y (Y.ix (.s (.s (.s (.s .z)))) rfl rfl rfl rfl rfl rfl a9.1 a9.2) rfl rfl rfl ?_; refine At.Still.y (Y.ld (.s (.s (.s (.s .z)))) (q := 0) rfl rfl a9.1 a9.2 rfl rfl rfl) rfl rfl rfl ?_; obtain ⟨b4, j⟩ := bnone j; refine At.Still.y (Y.ix (.s (.s (.s (.s .z)))) rfl rfl rfl rfl rfl rfl b4.1 b4.2) rfl rfl rfl ?_; refine At.Still.nil ?_; refine At.st rfl (.s (.s (.s (.s .z)))) (q := 0) (z := (gt e8.2.2.2.1 ((gt p a1).A))) rfl rfl rfl b4.1 b4.2 rfl rfl (.c .n) ?_; refine At.nil ?_; refine At.ibn ?_; refine At.drop (.s (.s (.s (.s (.s .z))))) (At.f4 (At.f4 (At.f4 (At.f4 ?_)))); cases bret j; exact At.res (.inr rfl) rfl rfl ⟨e8.2.2.1.length, g4, g5, rfl, rfl, rfl⟩
        ··refine At.condF rfl (bn d4) ?_
          refine At.seq (sR 2 rfl (nT ?_)); obtain ⟨g6, g7, m0, j⟩ := bjoin j; refine At.join (X := Bool) (fun Z => [(0, bp b0), (1, i6 a1), (4, bp O), (15, i6 ((gt p a1).Kind)), (104, .bool Z)]) (fun Z => T9 :: d3 :: row Q14.fl 272 A0_1 I.length c0_1 I :: row (Fl.int .i64) 3 A0_3 D.length c0_3 D :: row Fl.bool 4 A0_4 G.length c0_4 G :: row (Fl.int .i64) 3 A0_5 u.length c0_5 u :: Fr) (fun Z => g6 (.inl Z) = some r) ?_ (fun e9 => ?_)
          ·rintro Z j; have j := (g7 _).symm.trans j
           ·rcases bite j with ⟨d5, j⟩ | ⟨d5, j⟩
            ··refine At.condT rfl d5 ?_
              refine sR 2 rfl (At.y (Y.load rfl rfl .z rfl rfl rfl) rfl rfl rfl (At.f5 (At.f5 (At.f5 (At.f5 ?_))))); refine At.f5 ?_; obtain ⟨U, g8, j⟩ := bbind j; refine At.call rfl Q25.callee rfl rfl rfl (ih _ _ b0 A0_0 p.length c0_0 A0_1 I.length c0_1 A0_3 D.length c0_3 A0_4 G.length c0_4 A0_5 u.length c0_5 p I J D G u ((gt p a1).A) hr0_0 rfl hc0_0 rfl rfl rfl rfl g8) ?_; rintro _ _ ⟨m1, g9, h0, rfl, rfl, rfl⟩; refine nT (sR 2 rfl ?_); refine At.y (Y.load rfl rfl (.s (.s (.s (.s (.s .z))))) rfl rfl rfl) rfl rfl rfl ?_; refine At.rowLen (.s (.s .z)) fun h1 => ?_; refine At.rowLen (.s (.s (.s .z))) fun h2 => ?_; refine At.rowLen (.s (.s (.s (.s .z)))) fun h3 => ?_; obtain ⟨a0, h4, j⟩ := bbind j; refine At.call rfl Q25.callee rfl rfl rfl (ih _ _ b0 A0_0 p.length c0_0 g9 U.2.2.1.length h0 A0_3 D.length c0_3 A0_4 G.length c0_4 A0_5 u.length c0_5 p U.2.2.1 U.2.2.2.2 U.2.1 U.1 U.2.2.2.1 ((gt p a1).B) hr0_0 rfl hc0_0 rfl h1 h2 h3 h4) ?_; rintro _ _ ⟨m2, h5, h6, rfl, rfl, rfl⟩; refine nT ?_; refine At.still 23 (by kernel_rfl) ?_; refine At.Still.run 3 rfl ?_; refine At.Still.y (Y.load rfl rfl .z rfl rfl rfl) rfl rfl rfl ?_; refine At.Still.run 4 rfl ?_; refine At.Still.y (Y.load rfl rfl .z rfl rfl rfl) rfl rfl rfl ?_; refine At.Still.run 1 rfl ?_; refine At.Still.y (Y.load rfl rfl (.s (.s (.s (.s (.s .z))))) rfl rfl rfl) rfl rfl rfl ?_; obtain ⟨b5, j⟩ := bnone j; refine At.Still.y (Y.ix (.s (.s (.s (.s .z)))) rfl rfl rfl rfl rfl rfl b5.1 b5.2) rfl rfl rfl ?_; refine At.Still.y (Y.ld (.s (.s (.s (.s .z)))) (q := 0) rfl rfl b5.1 b5.2 rfl rfl rfl) rfl rfl rfl ?_; refine At.Still.run 3 rfl ?_; refine At.Still.y (Y.load rfl rfl .z rfl rfl rfl) rfl rfl rfl ?_; refine At.Still.run 1 rfl ?_; refine At.Still.y (Y.load rfl rfl (.s (.s (.s (.s (.s .z))))) rfl rfl rfl) rfl rfl rfl ?_; obtain ⟨b6, j⟩ := bnone j; refine At.Still.y (Y.ix (.s (.s (.s (.s .z)))) rfl rfl rfl rfl rfl rfl b6.1 b6.2) rfl rfl rfl ?_; refine At.Still.y (Y.ld (.s (.s (.s (.s .z)))) (q := 0) rfl rfl b6.1 b6.2 rfl rfl rfl) rfl rfl rfl ?_; refine At.Still.run 1 rfl ?_; obtain ⟨b7, j⟩ := bnone j; refine At.Still.y (Y.ix (.s (.s (.s (.s .z)))) rfl rfl rfl rfl rfl rfl b7.1 b7.2) rfl rfl rfl ?_; refine At.Still.nil ?_; refine At.st rfl (.s (.s (.s (.s .z)))) (q := 0) (z := (if gt a0.2.2.2.1 ((gt p a1).A) < gt a0.2.2.2.1 ((gt p a1).B) then gt a0.2.2.2.1 ((gt p a1).B) else gt a0.2.2.2.1 ((gt p a1).A))) rfl rfl rfl b7.1 b7.2 rfl rfl (.c .n) ?_; refine At.nil ?_; refine At.ibn ?_; refine At.drop (.s (.s (.s (.s (.s .z))))) (At.f4 (At.f4 (At.f4 (At.f4 ?_)))); cases bret j; exact At.res (.inr rfl) rfl rfl ⟨a0.2.2.1.length, h5, h6, rfl, rfl, rfl⟩
            ··refine At.condF rfl (bn d5) ?_
              refine At.seq (sR 2 rfl (nT ?_)); obtain ⟨h7, h8, m3, j⟩ := bjoin j; refine At.join (X := Bool) (fun a2 => [(0, bp b0), (1, i6 a1), (4, bp O), (138, .bool a2)]) (fun a2 => T9 :: d3 :: row Q14.fl 272 A0_1 I.length c0_1 I :: row (Fl.int .i64) 3 A0_3 D.length c0_3 D :: row Fl.bool 4 A0_4 G.length c0_4 G :: row (Fl.int .i64) 3 A0_5 u.length c0_5 u :: Fr) (fun a2 => h7 (.inl a2) = some r) ?_ (fun f0 => ?_)
              ·rintro a2 j; have j := (h8 _).symm.trans j
               ·rcases bite j with ⟨d6, j⟩ | ⟨d6, j⟩
                ··refine At.condT rfl d6 ?_
                  refine At.seq ?_; refine At.held [T9, row (Fl.int .i64) 3 A0_3 D.length c0_3 D, row Fl.bool 4 A0_4 G.length c0_4 G, row (Fl.int .i64) 3 A0_5 u.length c0_5 u] 16 rfl ?_; refine At.H.pw 0 rfl rfl rfl rfl rfl (.c .z (.c (.s (.s .z)) (.c (.s (.s .z)) (.c (.s (.s .z)) .n)))) ?_; refine At.H.pw 1 rfl rfl rfl rfl rfl (.c .z (.c (.s (.s .z)) (.c (.s (.s .z)) (.c (.s (.s .z)) .n)))) ?_; refine At.H.pw 2 rfl rfl rfl rfl rfl (.c .z (.c (.s (.s .z)) (.c (.s (.s .z)) (.c (.s (.s .z)) .n)))) ?_; refine At.H.pw 3 rfl rfl rfl rfl rfl (.c .z (.c (.s (.s .z)) (.c (.s (.s .z)) (.c (.s (.s .z)) .n)))) ?_; refine At.H.pw 5 rfl rfl rfl rfl rfl (.c .z (.c (.s (.s .z)) (.c (.s (.s .z)) (.c (.s (.s .z)) .n)))) ?_; refine At.H.pw 6 rfl rfl rfl rfl rfl (.c .z (.c (.s (.s .z)) (.c (.s (.s .z)) (.c (.s (.s .z)) .n)))) ?_; refine At.H.pw 7 rfl rfl rfl rfl rfl (.c .z (.c (.s (.s .z)) (.c (.s (.s .z)) (.c (.s (.s .z)) .n)))) ?_; refine At.H.pw 8 rfl rfl rfl rfl rfl (.c .z (.c (.s (.s .z)) (.c (.s (.s .z)) (.c (.s (.s .z)) .n)))) ?_; obtain ⟨d7, j⟩ := bnone j; refine At.H.joinK (X := (Option Addr) × Nat) (fun s_ => [(0, bp b0), (1, i6 a1), (4, bp O)]) (fun s_ => pc b0 [.slice A0_0 p.length c0_0, .slice s_.1 ((I ++ ([(⟨a1, J⟩ : Q14)] : List Q14)).length) s_.2, i6 J, .slice A0_3 D.length c0_3, .slice A0_4 G.length c0_4, .slice A0_5 u.length c0_5] 225 :: row Q14.fl 272 s_.1 ((I ++ ([(⟨a1, J⟩ : Q14)] : List Q14)).length) s_.2 (I ++ ([(⟨a1, J⟩ : Q14)] : List Q14)) :: T9 :: row (Fl.int .i64) 3 A0_3 D.length c0_3 D :: row Fl.bool 4 A0_4 G.length c0_4 G :: row (Fl.int .i64) 3 A0_5 u.length c0_5 u :: Fr) (fun s_ => True) ?_ (fun d8 => ?_)
                  ·rintro ⟨h9, k0⟩ -
                   ·refine At.thn (sR 2 rfl (At.y (Y.load rfl rfl (.s (.s .z)) rfl rfl rfl) rfl rfl rfl (At.f5 (At.f5 (At.f5 ?_))))); refine At.f4 (At.f4 ?_); obtain ⟨L, k1, j⟩ := bbind j; refine At.call rfl Q25.callee rfl rfl rfl (ih _ _ b0 A0_0 p.length c0_0 h9 ((I ++ ([(⟨a1, J⟩ : Q14)] : List Q14)).length) k0 A0_3 D.length c0_3 A0_4 G.length c0_4 A0_5 u.length c0_5 p (I ++ ([(⟨a1, J⟩ : Q14)] : List Q14)) J D G u ((gt p a1).A) hr0_0 rfl hc0_0 rfl rfl rfl rfl k1) ?_; rintro _ _ ⟨m4, d9, e0, rfl, rfl, rfl⟩; refine nT (At.seq ?_); refine At.held [row (Fl.int .i64) 3 A0_3 D.length c0_3 L.2.1, row Fl.bool 4 A0_4 G.length c0_4 L.1, row (Fl.int .i64) 3 A0_5 u.length c0_5 L.2.2.2.1, T9] 15 rfl ?_; refine At.H.pw 0 rfl rfl rfl rfl rfl (.c (.s (.s .z)) (.c (.s (.s .z)) (.c (.s (.s .z)) (.c (.s (.s .z)) .n)))) ?_; refine At.H.pw 1 rfl rfl rfl rfl rfl (.c (.s (.s .z)) (.c (.s (.s .z)) (.c (.s (.s .z)) (.c (.s (.s .z)) .n)))) ?_; refine At.H.pw 2 rfl rfl rfl rfl rfl (.c (.s (.s .z)) (.c (.s (.s .z)) (.c (.s (.s .z)) (.c (.s (.s .z)) .n)))) ?_; refine At.H.pw 3 rfl rfl rfl rfl rfl (.c (.s (.s .z)) (.c (.s (.s .z)) (.c (.s (.s .z)) (.c (.s (.s .z)) .n)))) ?_; refine At.H.pw 5 rfl rfl rfl rfl rfl (.c (.s (.s .z)) (.c (.s (.s .z)) (.c (.s (.s .z)) (.c (.s (.s .z)) .n)))) ?_; refine At.H.pw 6 rfl rfl rfl rfl rfl (.c (.s (.s .z)) (.c (.s (.s .z)) (.c (.s (.s .z)) (.c (.s (.s .z)) .n)))) ?_; refine At.H.pw 7 rfl rfl rfl rfl rfl (.c (.s (.s .z)) (.c (.s (.s .z)) (.c (.s (.s .z)) (.c (.s (.s .z)) .n)))) ?_; obtain ⟨b8, j⟩ := bnone j; let k2 : HProp := pc b0 [.slice A0_0 p.length c0_0, .slice d9 ((L.2.2.1.take (IntKind.i64.wrap ((L.2.2.1.length : Int) - 1)).toNat).length) e0, i6 L.2.2.2.2, .slice A0_3 D.length c0_3, .slice A0_4 G.length c0_4, .slice A0_5 u.length c0_5] 225; let k3 : HProp := row Q14.fl 272 d9 ((L.2.2.1.take (IntKind.i64.wrap ((L.2.2.1.length : Int) - 1)).toNat).length) e0 (L.2.2.1.take (IntKind.i64.wrap ((L.2.2.1.length : Int) - 1)).toNat); refine At.H.joinK (X := Unit) (fun _ => [(0, bp b0), (1, i6 a1), (4, bp O)]) (fun _ => k2 :: k3 :: row (Fl.int .i64) 3 A0_3 D.length c0_3 L.2.1 :: row Fl.bool 4 A0_4 G.length c0_4 L.1 :: row (Fl.int .i64) 3 A0_5 u.length c0_5 L.2.2.2.1 :: T9 :: Fr) (fun _ => True) ?_ (fun f3 => ?_)
                    ·rintro _ -
                     ·refine At.thn ?_; refine At.still 15 (by kernel_rfl) ?_; refine At.Still.run 3 rfl ?_; refine At.Still.y (Y.load rfl rfl .z rfl rfl rfl) rfl rfl rfl ?_; refine At.Still.run 4 rfl ?_; refine At.Still.y (Y.load rfl rfl .z rfl rfl rfl) rfl rfl rfl ?_; refine At.Still.run 1 rfl ?_; refine At.Still.y (Y.load rfl rfl (.s (.s (.s (.s (.s .z))))) rfl rfl rfl) rfl rfl rfl ?_; obtain ⟨b9, j⟩ := bnone j; refine At.Still.y (Y.ix (.s (.s (.s (.s .z)))) rfl rfl rfl rfl rfl rfl b9.1 b9.2) rfl rfl rfl ?_; refine At.Still.y (Y.ld (.s (.s (.s (.s .z)))) (q := 0) rfl rfl b9.1 b9.2 rfl rfl rfl) rfl rfl rfl ?_; refine At.Still.run 1 rfl ?_; obtain ⟨c8, j⟩ := bnone j; refine At.Still.y (Y.ix (.s (.s (.s (.s .z)))) rfl rfl rfl rfl rfl rfl c8.1 c8.2) rfl rfl rfl ?_; refine At.Still.nil ?_; refine At.st rfl (.s (.s (.s (.s .z)))) (q := 0) (z := (IntKind.i64.wrap (gt L.2.2.2.1 ((gt p a1).A) + 1))) rfl rfl rfl c8.1 c8.2 rfl rfl (.c .n) ?_; refine At.nil ?_; refine At.ibn ?_; refine At.drop (.s (.s (.s (.s (.s .z))))) (At.f4 (At.f4 (At.f4 (At.f4 ?_)))); cases bret j; exact At.res (.inr rfl) rfl rfl ⟨(L.2.2.1.take (IntKind.i64.wrap ((L.2.2.1.length : Int) - 1)).toNat).length, d9, e0, rfl, rfl, rfl⟩
                    ·refine At.H.al [4, 8] (Q4 ?_ (Q4 ?_ Q6))
                     ··refine At.HO.op rfl ?_
                       refine At.y (Y.load rfl rfl .z rfl rfl rfl) rfl rfl rfl ?_; refine At.HO.back (.c (.s (.s .z)) (.c (.s (.s .z)) (.c (.s (.s .z)) (.c (.s (.s .z)) .n)))) ?_; refine At.H.al [8] (Q4 ?_ Q6)
                       ··refine At.HO.op rfl ?_
                         refine At.y (Y.load rfl rfl .z rfl rfl rfl) rfl rfl rfl ?_; refine At.HO.back (.c (.s (.s .z)) (.c (.s (.s .z)) (.c (.s (.s .z)) (.c (.s (.s .z)) .n)))) ?_; refine At.H.pw 9 rfl rfl rfl rfl rfl (.c (.s (.s .z)) (.c (.s (.s .z)) (.c (.s (.s .z)) (.c (.s (.s .z)) .n)))) ?_; refine At.H.pw 10 rfl rfl rfl rfl rfl (.c (.s (.s .z)) (.c (.s (.s .z)) (.c (.s (.s .z)) (.c (.s (.s .z)) .n)))) ?_; refine At.H.al [11] (Q4 ?_ Q6)
                         ··refine At.HO.op rfl ?_
                           refine At.cut rfl (.s .z) rfl rfl rfl rfl rfl b8.1 b8.2 rfl ?_; refine At.HO.back (.c (.s (.s .z)) (.c (.s (.s .z)) (.c (.s (.s .z)) (.c (.s (.s .z)) .n)))) ?_; refine At.H.pw 12 rfl rfl rfl rfl rfl (.c (.s (.s .z)) (.c (.s (.s .z)) (.c (.s (.s .z)) (.c (.s (.s .z)) .n)))) ?_; refine At.H.pw 13 rfl rfl rfl rfl rfl (.c (.s (.s .z)) (.c (.s (.s .z)) (.c (.s (.s .z)) (.c (.s (.s .z)) .n)))) ?_; refine At.H.al [14] (Q4 ?_ Q6)
                           ··refine At.HO.op rfl ?_
                             refine At.store rfl rfl rfl rfl (.s .z) rfl rfl rfl (.s (.c .n)) ?_; refine At.HO.back (.c (.s (.s .z)) (.c (.s (.s .z)) (.c (.s (.s .z)) (.c (.s (.s .z)) .n)))) ?_; refine At.H.done (by kernel_rfl) ?_; exact At.of (f3 () trivial) ⟨rfl, rfl, rfl, trivial⟩
                     ··refine At.HO.op rfl ?_
                       refine At.y (Y.load rfl rfl .z rfl rfl rfl) rfl rfl rfl ?_; refine At.HO.back (.c (.s (.s .z)) (.c (.s (.s .z)) (.c (.s (.s .z)) (.c (.s (.s .z)) .n)))) ?_; refine At.H.pw 9 rfl rfl rfl rfl rfl (.c (.s (.s .z)) (.c (.s (.s .z)) (.c (.s (.s .z)) (.c (.s (.s .z)) .n)))) ?_; refine At.H.pw 10 rfl rfl rfl rfl rfl (.c (.s (.s .z)) (.c (.s (.s .z)) (.c (.s (.s .z)) (.c (.s (.s .z)) .n)))) ?_; refine At.H.al [4] (Q4 ?_ Q6)
                       ··refine At.HO.op rfl ?_
                         refine At.y (Y.load rfl rfl .z rfl rfl rfl) rfl rfl rfl ?_; refine At.HO.back (.c (.s (.s .z)) (.c (.s (.s .z)) (.c (.s (.s .z)) (.c (.s (.s .z)) .n)))) ?_; refine At.H.al [11] (Q4 ?_ Q6)
                         ··refine At.HO.op rfl ?_
                           refine At.cut rfl (.s .z) rfl rfl rfl rfl rfl b8.1 b8.2 rfl ?_; refine At.HO.back (.c (.s (.s .z)) (.c (.s (.s .z)) (.c (.s (.s .z)) (.c (.s (.s .z)) .n)))) ?_; refine At.H.pw 12 rfl rfl rfl rfl rfl (.c (.s (.s .z)) (.c (.s (.s .z)) (.c (.s (.s .z)) (.c (.s (.s .z)) .n)))) ?_; refine At.H.pw 13 rfl rfl rfl rfl rfl (.c (.s (.s .z)) (.c (.s (.s .z)) (.c (.s (.s .z)) (.c (.s (.s .z)) .n)))) ?_; refine At.H.al [14] (Q4 ?_ Q6)
                           ··refine At.HO.op rfl ?_
                             refine At.store rfl rfl rfl rfl (.s .z) rfl rfl rfl (.s (.c .n)) ?_; refine At.HO.back (.c (.s (.s .z)) (.c (.s (.s .z)) (.c (.s (.s .z)) (.c (.s (.s .z)) .n)))) ?_; refine At.H.done (by kernel_rfl) ?_; exact At.of (f3 () trivial) ⟨rfl, rfl, rfl, trivial⟩
                  ·refine At.H.al [4, 9] (Q4 ?_ (Q4 ?_ Q6))
                   ··refine At.HO.op rfl ?_
                     refine At.y (Y.load rfl rfl (.s .z) rfl rfl rfl) rfl rfl rfl ?_; refine At.HO.back (.c .z (.c (.s (.s .z)) (.c (.s (.s .z)) (.c (.s (.s .z)) .n)))) ?_; refine At.H.al [9] (Q4 ?_ Q6)
                     ··refine At.HO.op rfl ?_
                       refine At.y (Y.load rfl rfl (.s .z) rfl rfl rfl) rfl rfl rfl ?_; refine At.HO.back (.c .z (.c (.s (.s .z)) (.c (.s (.s .z)) (.c (.s (.s .z)) .n)))) ?_; refine At.H.tw 10 rfl (Y.build (is := [0, 1]) (xo := [.tmp 146, .tmp 150]) (vs := [i6 a1, i6 J]) (cs := [i6 a1, i6 J]) rfl rfl rfl rfl rfl rfl) rfl rfl rfl (.c .z (.c (.s (.s .z)) (.c (.s (.s .z)) (.c (.s (.s .z)) .n)))) ?_; refine At.H.al [11] (Q4 ?_ Q6)
                       ··refine At.HO.op rfl ?_
                         refine At.lit rfl (xo := [.tmp 151]) (ys := ([(⟨a1, J⟩ : Q14)] : List Q14)) Q14.fl rfl rfl rfl rfl rfl rfl rfl rfl rfl rfl rfl (fun m5 m6 => ?_); refine At.HO.back (.c (.s .z) (.c (.s (.s (.s .z))) (.c (.s (.s (.s .z))) (.c (.s (.s (.s .z))) .n)))) ?_; refine At.H.al [12] (Q4 ?_ Q6)
                         ··refine At.HO.op rfl ?_
                           refine At.append rfl (.s (.s (.s .z))) (Src.own .z (by simp)) rfl rfl rfl rfl rfl rfl rfl rfl d7 (by decide) rfl (fun k4 k5 => ?_); refine At.drop (.s .z) ?_; refine At.HO.back (.c (.s .z) (.c (.s (.s .z)) (.c (.s (.s .z)) (.c (.s (.s .z)) .n)))) ?_; refine At.H.pw 13 rfl rfl rfl rfl rfl (.c (.s .z) (.c (.s (.s .z)) (.c (.s (.s .z)) (.c (.s (.s .z)) .n)))) ?_; refine At.H.pw 14 rfl rfl rfl rfl rfl (.c (.s .z) (.c (.s (.s .z)) (.c (.s (.s .z)) (.c (.s (.s .z)) .n)))) ?_; refine At.H.al [15] (Q4 ?_ Q6)
                           ··refine At.HO.op rfl ?_
                             refine At.store rfl rfl rfl rfl (.s (.s .z)) rfl rfl rfl (.s (.c .n)) ?_; refine At.HO.back (.c (.s (.s .z)) (.c (.s (.s .z)) (.c (.s (.s .z)) (.c (.s (.s .z)) .n)))) ?_; refine At.H.done (by kernel_rfl) ?_; exact At.of (d8 (k4, k5) trivial) ⟨rfl, rfl, rfl, trivial⟩
                   ··refine At.HO.op rfl ?_
                     refine At.y (Y.load rfl rfl (.s .z) rfl rfl rfl) rfl rfl rfl ?_; refine At.HO.back (.c .z (.c (.s (.s .z)) (.c (.s (.s .z)) (.c (.s (.s .z)) .n)))) ?_; refine At.H.tw 10 rfl (Y.build (is := [0, 1]) (xo := [.tmp 146, .tmp 150]) (vs := [i6 a1, i6 J]) (cs := [i6 a1, i6 J]) rfl rfl rfl rfl rfl rfl) rfl rfl rfl (.c .z (.c (.s (.s .z)) (.c (.s (.s .z)) (.c (.s (.s .z)) .n)))) ?_; refine At.H.al [4, 11] (Q4 ?_ (Q4 ?_ Q6))
                     ··refine At.HO.op rfl ?_
                       refine At.y (Y.load rfl rfl (.s .z) rfl rfl rfl) rfl rfl rfl ?_; refine At.HO.back (.c .z (.c (.s (.s .z)) (.c (.s (.s .z)) (.c (.s (.s .z)) .n)))) ?_; refine At.H.al [11] (Q4 ?_ Q6)
                       ··refine At.HO.op rfl ?_
                         refine At.lit rfl (xo := [.tmp 151]) (ys := ([(⟨a1, J⟩ : Q14)] : List Q14)) Q14.fl rfl rfl rfl rfl rfl rfl rfl rfl rfl rfl rfl (fun m7 m8 => ?_); refine At.HO.back (.c (.s .z) (.c (.s (.s (.s .z))) (.c (.s (.s (.s .z))) (.c (.s (.s (.s .z))) .n)))) ?_; refine At.H.al [12] (Q4 ?_ Q6)
                         ··refine At.HO.op rfl ?_
                           refine At.append rfl (.s (.s (.s .z))) (Src.own .z (by simp)) rfl rfl rfl rfl rfl rfl rfl rfl d7 (by decide) rfl (fun k6 k7 => ?_); refine At.drop (.s .z) ?_; refine At.HO.back (.c (.s .z) (.c (.s (.s .z)) (.c (.s (.s .z)) (.c (.s (.s .z)) .n)))) ?_; refine At.H.pw 13 rfl rfl rfl rfl rfl (.c (.s .z) (.c (.s (.s .z)) (.c (.s (.s .z)) (.c (.s (.s .z)) .n)))) ?_; refine At.H.pw 14 rfl rfl rfl rfl rfl (.c (.s .z) (.c (.s (.s .z)) (.c (.s (.s .z)) (.c (.s (.s .z)) .n)))) ?_; refine At.H.al [15] (Q4 ?_ Q6)
                           ··refine At.HO.op rfl ?_
                             refine At.store rfl rfl rfl rfl (.s (.s .z)) rfl rfl rfl (.s (.c .n)) ?_; refine At.HO.back (.c (.s (.s .z)) (.c (.s (.s .z)) (.c (.s (.s .z)) (.c (.s (.s .z)) .n)))) ?_; refine At.H.done (by kernel_rfl) ?_; exact At.of (d8 (k6, k7) trivial) ⟨rfl, rfl, rfl, trivial⟩
                     ··refine At.HO.op rfl ?_
                       refine At.lit rfl (xo := [.tmp 151]) (ys := ([(⟨a1, J⟩ : Q14)] : List Q14)) Q14.fl rfl rfl rfl rfl rfl rfl rfl rfl rfl rfl rfl (fun m9 n2 => ?_); refine At.HO.back (.c (.s .z) (.c (.s (.s (.s .z))) (.c (.s (.s (.s .z))) (.c (.s (.s (.s .z))) .n)))) ?_; refine At.H.al [4] (Q4 ?_ Q6)
                       ··refine At.HO.op rfl ?_
                         refine At.y (Y.load rfl rfl (.s (.s .z)) rfl rfl rfl) rfl rfl rfl ?_; refine At.HO.back (.c (.s .z) (.c (.s (.s (.s .z))) (.c (.s (.s (.s .z))) (.c (.s (.s (.s .z))) .n)))) ?_; refine At.H.al [12] (Q4 ?_ Q6)
                         ··refine At.HO.op rfl ?_
                           refine At.append rfl (.s (.s (.s .z))) (Src.own .z (by simp)) rfl rfl rfl rfl rfl rfl rfl rfl d7 (by decide) rfl (fun k8 k9 => ?_); refine At.drop (.s .z) ?_; refine At.HO.back (.c (.s .z) (.c (.s (.s .z)) (.c (.s (.s .z)) (.c (.s (.s .z)) .n)))) ?_; refine At.H.pw 13 rfl rfl rfl rfl rfl (.c (.s .z) (.c (.s (.s .z)) (.c (.s (.s .z)) (.c (.s (.s .z)) .n)))) ?_; refine At.H.pw 14 rfl rfl rfl rfl rfl (.c (.s .z) (.c (.s (.s .z)) (.c (.s (.s .z)) (.c (.s (.s .z)) .n)))) ?_; refine At.H.al [15] (Q4 ?_ Q6)
                           ··refine At.HO.op rfl ?_
                             refine At.store rfl rfl rfl rfl (.s (.s .z)) rfl rfl rfl (.s (.c .n)) ?_; refine At.HO.back (.c (.s (.s .z)) (.c (.s (.s .z)) (.c (.s (.s .z)) (.c (.s (.s .z)) .n)))) ?_; refine At.H.done (by kernel_rfl) ?_; exact At.of (d8 (k8, k9) trivial) ⟨rfl, rfl, rfl, trivial⟩
                ··refine At.condF rfl (bn d6) ?_
                  refine At.skip ?_; refine At.ibn ?_; refine At.drop .z ?_; cases bret j; exact At.res (.inr rfl) rfl rfl ⟨I.length, A0_1, c0_1, rfl, rfl, rfl⟩
              ··rcases bite j with ⟨e1, j⟩ | ⟨e1, j⟩
                ··refine At.condT rfl (decide_eq_true e1) ?_
                  refine At.skip (At.thn ?_); exact fun a w e hs => f0 (decide ((gt p a1).Kind = 10)) j a w (e.sub ⟨rfl, rfl, rfl, rfl, trivial⟩) hs
                ··refine At.condF rfl (decide_eq_false e1) ?_
                  refine At.region (At.run 2 rfl (nT ?_)); exact fun a w e hs => f0 (decide ((gt p a1).Kind = 11)) j a w (e.sub ⟨rfl, rfl, rfl, rfl, trivial⟩) hs
          ··rcases bite j with ⟨e2, j⟩ | ⟨e2, j⟩
            ··refine At.condT rfl (decide_eq_true e2) ?_
              refine At.skip (At.thn ?_); exact fun a w e hs => e9 (decide ((gt p a1).Kind = 6)) j a w (e.sub ⟨rfl, rfl, rfl, rfl, rfl, trivial⟩) hs
            ··refine At.condF rfl (decide_eq_false e2) ?_
              refine At.region (At.run 2 rfl (nT ?_)); exact fun a w e hs => e9 (decide ((gt p a1).Kind = 7)) j a w (e.sub ⟨rfl, rfl, rfl, rfl, rfl, trivial⟩) hs
      ··rcases bite j with ⟨e3, j⟩ | ⟨e3, j⟩
        ··refine At.condT rfl (decide_eq_true e3) ?_
          refine At.skip (At.thn ?_); exact fun a w e hs => e7 (decide ((gt p a1).Kind = 8)) j a w (e.sub ⟨rfl, rfl, rfl, rfl, rfl, trivial⟩) hs
        ··refine At.condF rfl (decide_eq_false e3) ?_
          refine At.region (At.run 2 rfl (nT ?_)); exact fun a w e hs => e7 (decide ((gt p a1).Kind = 9)) j a w (e.sub ⟨rfl, rfl, rfl, rfl, rfl, trivial⟩) hs
theorem Q25.spec {p : List Q9} {q : List Q14} {I a1 : Int} {u D : List Int} {G : List Bool} (hr0_0 : RdS Q9.fl.rep R.heap A0_0 p) (hn0_0 : p.length = n0_0) (hc0_0 : n0_0 ≤ c0_0) (hn0_1 : q.length = n0_1) (hn0_3 : u.length = n0_3) (hn0_4 : G.length = n0_4) (hn0_5 : D.length = n0_5) {r : (List Bool) × (List Int) × (List Q14) × (List Int) × Int} (j : Q25.f p q I u G D a1 = some r) :
 Spec Tryz.prog 197 [bp b0, i6 a1] R (pc b0 [.slice A0_0 n0_0 c0_0, .slice A0_1 n0_1 c0_1, i6 I, .slice A0_3 n0_3 c0_3, .slice A0_4 n0_4 c0_4, .slice A0_5 n0_5 c0_5] 225 :: row Q14.fl 272 A0_1 n0_1 c0_1 q :: row (Fl.int .i64) 3 A0_3 n0_3 c0_3 u :: row Fl.bool 4 A0_4 n0_4 c0_4 G :: row (Fl.int .i64) 3 A0_5 n0_5 c0_5 D :: Fr) (fun v l' => ∃ (J : Nat) (L : Option Addr) (O : Nat), v = .tuple #[] ∧ pc b0 [.slice A0_0 n0_0 c0_0, .slice L J O, i6 r.2.2.2.2, .slice A0_3 n0_3 c0_3, .slice A0_4 n0_4 c0_4, .slice A0_5 n0_5 c0_5] 225 :: row Q14.fl 272 L J O r.2.2.1 :: row (Fl.int .i64) 3 A0_3 n0_3 c0_3 r.2.1 :: row Fl.bool 4 A0_4 n0_4 c0_4 r.1 :: row (Fl.int .i64) 3 A0_5 n0_5 c0_5 r.2.2.2.1 :: Fr = l' ∧ r.2.2.1.length = J) := by
 obtain ⟨k_, hk_⟩ := Q294 j; exact Q25.specN k_ R Fr b0 A0_0 n0_0 c0_0 A0_1 n0_1 c0_1 A0_3 n0_3 c0_3 A0_4 n0_4 c0_4 A0_5 n0_5 c0_5 p q I u G D a1 hr0_0 hn0_0 hc0_0 hn0_1 hn0_3 hn0_4 hn0_5 hk_

noncomputable def Q40.l0b (a0 : List Q9) (q : List Int) (p : Int) : Option (((List Int) × Int) ⊕ (((List Int)) ⊕ ((List Q14) × (List Int) × (List Bool) × (List Int) × Int))) :=
 if p < ((List.replicate (a0.length : Int).toNat (0 : Int)).length : Int) then
 if (0 : Int) ≤ p ∧ p < ((List.replicate (a0.length : Int).toNat (0 : Int)).length : Int) then
 nx ((st q p (-1)), IntKind.i64.wrap (p + 1))
 else none
 else
 dn (.inl q)
noncomputable def Q40.l0 (a0 : List Q9) (p : List Int) (q : Int) : Option (((List Int)) ⊕ ((List Q14) × (List Int) × (List Bool) × (List Int) × Int)) := iter (fun t_ : (List Int) × Int => Q40.l0b a0 t_.1 t_.2) (p, q)
noncomputable def Q40.f (a0 : List Q9) : Option ((List Q14) × (List Int) × (List Bool) × (List Int) × Int) :=
 if (0 : Int) ≤ (a0.length : Int) ∧ (8 : Int) * (a0.length : Int) ≤ 281474976710656 then
 if (0 : Int) ≤ (a0.length : Int) ∧ (1 : Int) * (a0.length : Int) ≤ 281474976710656 then
 jn (Q40.l0 a0 (List.replicate (a0.length : Int).toNat (0 : Int)) 0) (fun (q : List Int) =>
 (Q25.f a0 ([] : List Q14) 0 q (List.replicate (a0.length : Int).toNat (false : Bool)) (List.replicate (a0.length : Int).toNat (0 : Int)) (IntKind.i64.wrap ((a0.length : Int) - 1))).bind fun p =>
 some (p.2.2.1, p.2.1, p.1, p.2.2.2.1, p.2.2.2.2))
 else none
 else none
theorem Q40.callee : Callee Tryz.prog 154 := ⟨_, Tryz.func154, by kernel_rfl, by kernel_rfl⟩
theorem Q40.spec {a0 : List Q9} (hr0 : RdS Q9.fl.rep R.heap A0 a0) (hn0 : a0.length = n0) (hc0 : n0 ≤ c0) {r : (List Q14) × (List Int) × (List Bool) × (List Int) × Int} (j : Q40.f a0 = some r) :
 Spec Tryz.prog 154 [.slice A0 n0 c0] R (Fr) (fun v l' => ∃ (f6 : Nat) (e2 : Nat) (f7 : Option Addr) (f8 : Nat) (f9 : Option Addr) (g0 : Nat) (g1 : Option Addr) (g2 : Nat) (g3 : Option Addr) (g4 : Nat), v = bp f6 ∧ pc f6 [.slice A0 n0 c0, .slice f7 e2 f8, i6 r.2.2.2.2, .slice f9 ((List.replicate (n0 : Int).toNat (0 : Int)).length) g0, .slice g1 ((List.replicate (n0 : Int).toNat (false : Bool)).length) g2, .slice g3 ((List.replicate (n0 : Int).toNat (0 : Int)).length) g4] 225 :: row Q14.fl 272 f7 e2 f8 r.1 :: row (Fl.int .i64) 3 f9 ((List.replicate (n0 : Int).toNat (0 : Int)).length) g0 r.2.1 :: row Fl.bool 4 g1 ((List.replicate (n0 : Int).toNat (false : Bool)).length) g2 r.2.2.1 :: row (Fl.int .i64) 3 g3 ((List.replicate (n0 : Int).toNat (0 : Int)).length) g4 r.2.2.2.1 :: Fr = l' ∧ r.1.length = e2) := by
 subst hn0; refine Spec.of Tryz.func154 rfl rfl ?_; unfold Q40.f at j; have j := brun j; refine sR 1 rfl (nT (At.seq ?_)); refine At.held [] 13 rfl ?_; refine At.H.pw 0 rfl rfl rfl rfl rfl .n ?_; refine At.H.pw 1 rfl rfl rfl rfl rfl .n ?_; refine At.H.pw 2 rfl rfl rfl rfl rfl .n ?_; refine At.H.pw 4 rfl rfl rfl rfl rfl .n ?_; refine At.H.pw 5 rfl rfl rfl rfl rfl .n ?_; refine At.H.pw 7 rfl rfl rfl rfl rfl .n ?_; refine At.H.pw 8 rfl rfl rfl rfl rfl .n ?_; obtain ⟨p, j⟩ := bnone j; obtain ⟨u, j⟩ := bnone j; refine At.H.joinK (X := Nat × (Option Addr) × Nat × (Option Addr) × Nat × (Option Addr) × Nat) (fun s_ => [(0, .slice A0 a0.length c0), (3, .pointer (some ⟨s_.1, 0, none⟩))]) (fun s_ => pt s_.1 (.cells [.slice A0 a0.length c0, .slice none 0 0, i6 0, .slice s_.2.2.2.2.2.1 ((List.replicate (a0.length : Int).toNat (0 : Int)).length) s_.2.2.2.2.2.2, .slice s_.2.2.2.1 ((List.replicate (a0.length : Int).toNat (false : Bool)).length) s_.2.2.2.2.1, .slice s_.2.1 ((List.replicate (a0.length : Int).toNat (0 : Int)).length) s_.2.2.1].toArray 225) :: row (Fl.int .i64) 3 s_.2.1 ((List.replicate (a0.length : Int).toNat (0 : Int)).length) s_.2.2.1 (List.replicate (a0.length : Int).toNat (0 : Int)) :: row Fl.bool 4 s_.2.2.2.1 ((List.replicate (a0.length : Int).toNat (false : Bool)).length) s_.2.2.2.2.1 (List.replicate (a0.length : Int).toNat (false : Bool)) :: row (Fl.int .i64) 3 s_.2.2.2.2.2.1 ((List.replicate (a0.length : Int).toNat (0 : Int)).length) s_.2.2.2.2.2.2 (List.replicate (a0.length : Int).toNat (0 : Int)) :: Fr) (fun s_ => True) ?_ (fun U => ?_)
 ·rintro ⟨a1, e3, e4, e5, e6, a2, a3⟩ -
  ·refine At.thn (At.seq (sR 3 rfl (At.y (Y.load rfl rfl .z rfl rfl rfl) rfl rfl rfl (At.run 2 rfl (At.nil ?_))))); refine At.thn ?_; refine At.block ?_; obtain ⟨g9, h0, k6, j⟩ := bjoin j; obtain ⟨g5, e7, h1⟩ := bsome j; clear j; unfold Q40.l0 at e7; obtain ⟨e8, V⟩ := Q16.1 e7; clear e7; let g6 : HProp := pc a1 [.slice A0 a0.length c0, .slice none 0 0, i6 0, .slice a2 ((List.replicate (a0.length : Int).toNat (0 : Int)).length) a3, .slice e5 ((List.replicate (a0.length : Int).toNat (false : Bool)).length) e6, .slice e3 ((List.replicate (a0.length : Int).toNat (0 : Int)).length) e4] 225; let g7 : HProp := row (Fl.int .i64) 3 e3 ((List.replicate (a0.length : Int).toNat (0 : Int)).length) e4 (List.replicate (a0.length : Int).toNat (0 : Int)); let g8 : HProp := row Fl.bool 4 e5 ((List.replicate (a0.length : Int).toNat (false : Bool)).length) e6 (List.replicate (a0.length : Int).toNat (false : Bool)); refine At.loopJ (X := (List Int) × Int) (Y := (List Int)) (e0 := 0) (fun s_ => [(0, .slice A0 a0.length c0), (3, bp a1), (21, i6 ((List.replicate (a0.length : Int).toNat (0 : Int)).length : Int)), (22, i6 s_.2)]) (fun s_ => g6 :: g7 :: g8 :: row (Fl.int .i64) 3 a2 ((List.replicate (a0.length : Int).toNat (0 : Int)).length) a3 s_.1 :: Fr) (fun m_ => fun s_ => iterN (fun t_ : (List Int) × Int => Q40.l0b a0 t_.1 t_.2) m_ (s_.1, s_.2) = some g5) e8 ((List.replicate (a0.length : Int).toNat (0 : Int)), 0) V (fun Z => [(0, .slice A0 a0.length c0), (3, bp a1)]) (fun Z => g6 :: g7 :: g8 :: row (Fl.int .i64) 3 a2 ((List.replicate (a0.length : Int).toNat (0 : Int)).length) a3 Z :: Fr) (fun Z => g9 (.inl Z) = some r) (fun a w e hs => ⟨e.sub ⟨rfl, rfl, rfl, rfl, trivial⟩, (by exact hs)⟩) ?_ (fun h2 => ?_)
   ·rintro Z j; have j := (h0 _).symm.trans j
    ·refine At.ibx ?_; refine At.thn (sR 4 rfl ?_); refine At.nilRow Q14.fl 272 ?_; refine At.rowLen (.s (.s (.s (.s .z)))) fun h3 => ?_; refine At.f2 (At.f3 (At.f4 (At.f3 (At.f4 ?_)))); obtain ⟨h4, h5, j⟩ := bbind j; refine At.call rfl Q25.callee rfl rfl rfl (Q25.spec hr0 rfl hc0 rfl h3 rfl rfl h5) ?_; rintro _ _ ⟨k7, h6, h7, rfl, rfl, rfl⟩; refine nT (sR 2 rfl (nT (At.ret ?_))); cases bret j; exact At.res (.inl rfl) rfl rfl ⟨a1, h4.2.2.1.length, h6, h7, a2, a3, e5, e6, e3, e4, rfl, rfl, rfl⟩
   ·clear V e8; rintro e8 ⟨e9, f0⟩ V; obtain ⟨h8, f_, h9, hf_, j⟩ := bit V; clear V; have j : (Q40.l0b a0 e9 f0).bind _ = some g5 := j; unfold Q40.l0b at j
    ·refine sR 1 rfl (nT (At.seq ?_)); rcases bite j with ⟨f5, j⟩ | ⟨f5, j⟩
     ··refine At.condT rfl (decide_eq_true f5) ?_
       refine At.skip (At.thn (At.seq ?_)); refine At.block ?_; refine sR 2 rfl (nT (At.region (At.run 3 rfl (At.y (Y.load rfl rfl .z rfl rfl rfl) rfl rfl rfl ?_)))); refine At.run 1 rfl ?_; obtain ⟨a4, j⟩ := bnone j; refine At.y (Y.ix (.s (.s (.s .z))) rfl rfl rfl rfl rfl rfl a4.1 a4.2) rfl rfl rfl ?_; refine At.st rfl (.s (.s (.s .z))) (q := 0) (z := (-1)) rfl rfl rfl a4.1 a4.2 rfl rfl (.c .n) ?_; refine At.nil ?_; refine At.ibn ?_; refine At.thn (At.region (At.run 2 rfl (At.nil (At.f3 (At.f3 (At.f3 ?_)))))); have j := bnx hf_ j; exact fun a w e hs => ⟨h8, ((st e9 f0 (-1)), IntKind.i64.wrap (f0 + 1)), h9, j, e.sub ⟨rfl, rfl, rfl, rfl, trivial⟩, hs⟩
     ··refine At.condF rfl (decide_eq_false f5) ?_
       refine At.exit ?_; refine At.the ?_; refine At.the ?_; exact fun a w e hs => h2 e9 (bdn j h1) a w (e.sub ⟨rfl, rfl, trivial⟩) hs
 ·refine At.H.al [3, 6, 9] (Q4 ?_ (Q4 ?_ (Q4 ?_ Q6)))
  ··refine At.HO.op rfl ?_
    refine At.make (F := (Fl.int .i64)) (z := 0) rfl rfl rfl rfl rfl rfl rfl rfl rfl rfl p.1 p.2 (by decide) rfl (fun D G => ?_); refine At.HO.back .n ?_; refine At.H.al [6, 9] (Q4 ?_ (Q4 ?_ Q6))
    ··refine At.HO.op rfl ?_
      refine At.make (F := Fl.bool) (z := false) rfl rfl rfl rfl rfl rfl rfl rfl rfl rfl u.1 u.2 (by decide) rfl (fun a5 a6 => ?_); refine At.HO.back .n ?_; refine At.H.al [9] (Q4 ?_ Q6)
      ··refine At.HO.op rfl ?_
        refine At.make (F := (Fl.int .i64)) (z := 0) rfl rfl rfl rfl rfl rfl rfl rfl rfl rfl p.1 p.2 (by decide) rfl (fun a7 a8 => ?_); refine At.HO.back .n ?_; refine At.H.tw 10 rfl (Y.build (is := [0, 3, 4, 5]) (xo := [.tmp 5, .tmp 8, .tmp 11, .tmp 14]) (vs := [.slice A0 a0.length c0, .slice D ((List.replicate (a0.length : Int).toNat (0 : Int)).length) G, .slice a5 ((List.replicate (a0.length : Int).toNat (false : Bool)).length) a6, .slice a7 ((List.replicate (a0.length : Int).toNat (0 : Int)).length) a8]) (cs := [.slice A0 a0.length c0, .slice none 0 0, i6 0, .slice D ((List.replicate (a0.length : Int).toNat (0 : Int)).length) G, .slice a5 ((List.replicate (a0.length : Int).toNat (false : Bool)).length) a6, .slice a7 ((List.replicate (a0.length : Int).toNat (0 : Int)).length) a8]) rfl rfl rfl rfl rfl rfl) rfl rfl rfl .n ?_; refine At.H.al [11] (Q4 ?_ Q6)
        ··refine At.HO.op rfl ?_
          refine At.box rfl rfl (cs := [.slice A0 a0.length c0, .slice none 0 0, i6 0, .slice D ((List.replicate (a0.length : Int).toNat (0 : Int)).length) G, .slice a5 ((List.replicate (a0.length : Int).toNat (false : Bool)).length) a6, .slice a7 ((List.replicate (a0.length : Int).toNat (0 : Int)).length) a8]) rfl rfl (fun k0 => ?_); refine At.HO.back .n ?_; refine At.H.pw 12 rfl rfl rfl rfl rfl .n ?_; refine At.H.done (by kernel_rfl) ?_; exact At.of (U (k0, a7, a8, a5, a6, D, G) trivial) ⟨rfl, rfl, trivial⟩
    ··refine At.HO.op rfl ?_
      refine At.make (F := (Fl.int .i64)) (z := 0) rfl rfl rfl rfl rfl rfl rfl rfl rfl rfl p.1 p.2 (by decide) rfl (fun a9 b4 => ?_); refine At.HO.back .n ?_; refine At.H.al [6] (Q4 ?_ Q6)
      ··refine At.HO.op rfl ?_
        refine At.make (F := Fl.bool) (z := false) rfl rfl rfl rfl rfl rfl rfl rfl rfl rfl u.1 u.2 (by decide) rfl (fun b5 b6 => ?_); refine At.HO.back .n ?_; refine At.H.tw 10 rfl (Y.build (is := [0, 3, 4, 5]) (xo := [.tmp 5, .tmp 8, .tmp 11, .tmp 14]) (vs := [.slice A0 a0.length c0, .slice D ((List.replicate (a0.length : Int).toNat (0 : Int)).length) G, .slice b5 ((List.replicate (a0.length : Int).toNat (false : Bool)).length) b6, .slice a9 ((List.replicate (a0.length : Int).toNat (0 : Int)).length) b4]) (cs := [.slice A0 a0.length c0, .slice none 0 0, i6 0, .slice D ((List.replicate (a0.length : Int).toNat (0 : Int)).length) G, .slice b5 ((List.replicate (a0.length : Int).toNat (false : Bool)).length) b6, .slice a9 ((List.replicate (a0.length : Int).toNat (0 : Int)).length) b4]) rfl rfl rfl rfl rfl rfl) rfl rfl rfl .n ?_; refine At.H.al [11] (Q4 ?_ Q6)
        ··refine At.HO.op rfl ?_
          refine At.box rfl rfl (cs := [.slice A0 a0.length c0, .slice none 0 0, i6 0, .slice D ((List.replicate (a0.length : Int).toNat (0 : Int)).length) G, .slice b5 ((List.replicate (a0.length : Int).toNat (false : Bool)).length) b6, .slice a9 ((List.replicate (a0.length : Int).toNat (0 : Int)).length) b4]) rfl rfl (fun k1 => ?_); refine At.HO.back .n ?_; refine At.H.pw 12 rfl rfl rfl rfl rfl .n ?_; refine At.H.done (by kernel_rfl) ?_; refine At.f3 (At.f2 (At.f3 (At.f3 ?_))); exact At.of (U (k1, a9, b4, b5, b6, D, G) trivial) ⟨rfl, rfl, trivial⟩
  ··refine At.HO.op rfl ?_
    refine At.make (F := Fl.bool) (z := false) rfl rfl rfl rfl rfl rfl rfl rfl rfl rfl u.1 u.2 (by decide) rfl (fun I J => ?_); refine At.HO.back .n ?_; refine At.H.al [3, 9] (Q4 ?_ (Q4 ?_ Q6))
    ··refine At.HO.op rfl ?_
      refine At.make (F := (Fl.int .i64)) (z := 0) rfl rfl rfl rfl rfl rfl rfl rfl rfl rfl p.1 p.2 (by decide) rfl (fun b7 b8 => ?_); refine At.HO.back .n ?_; refine At.H.al [9] (Q4 ?_ Q6)
      ··refine At.HO.op rfl ?_
        refine At.make (F := (Fl.int .i64)) (z := 0) rfl rfl rfl rfl rfl rfl rfl rfl rfl rfl p.1 p.2 (by decide) rfl (fun b9 c8 => ?_); refine At.HO.back .n ?_; refine At.H.tw 10 rfl (Y.build (is := [0, 3, 4, 5]) (xo := [.tmp 5, .tmp 8, .tmp 11, .tmp 14]) (vs := [.slice A0 a0.length c0, .slice b7 ((List.replicate (a0.length : Int).toNat (0 : Int)).length) b8, .slice I ((List.replicate (a0.length : Int).toNat (false : Bool)).length) J, .slice b9 ((List.replicate (a0.length : Int).toNat (0 : Int)).length) c8]) (cs := [.slice A0 a0.length c0, .slice none 0 0, i6 0, .slice b7 ((List.replicate (a0.length : Int).toNat (0 : Int)).length) b8, .slice I ((List.replicate (a0.length : Int).toNat (false : Bool)).length) J, .slice b9 ((List.replicate (a0.length : Int).toNat (0 : Int)).length) c8]) rfl rfl rfl rfl rfl rfl) rfl rfl rfl .n ?_; refine At.H.al [11] (Q4 ?_ Q6)
        ··refine At.HO.op rfl ?_
          refine At.box rfl rfl (cs := [.slice A0 a0.length c0, .slice none 0 0, i6 0, .slice b7 ((List.replicate (a0.length : Int).toNat (0 : Int)).length) b8, .slice I ((List.replicate (a0.length : Int).toNat (false : Bool)).length) J, .slice b9 ((List.replicate (a0.length : Int).toNat (0 : Int)).length) c8]) rfl rfl (fun k2 => ?_); refine At.HO.back .n ?_; refine At.H.pw 12 rfl rfl rfl rfl rfl .n ?_; refine At.H.done (by kernel_rfl) ?_; refine At.f2 (At.f3 (At.f3 (At.f3 ?_))); exact At.of (U (k2, b9, c8, I, J, b7, b8) trivial) ⟨rfl, rfl, trivial⟩
    ··refine At.HO.op rfl ?_
      refine At.make (F := (Fl.int .i64)) (z := 0) rfl rfl rfl rfl rfl rfl rfl rfl rfl rfl p.1 p.2 (by decide) rfl (fun c9 d0 => ?_); refine At.HO.back .n ?_; refine At.H.al [3] (Q4 ?_ Q6)
      ··refine At.HO.op rfl ?_
        refine At.make (F := (Fl.int .i64)) (z := 0) rfl rfl rfl rfl rfl rfl rfl rfl rfl rfl p.1 p.2 (by decide) rfl (fun d1 d2 => ?_); refine At.HO.back .n ?_; refine At.H.tw 10 rfl (Y.build (is := [0, 3, 4, 5]) (xo := [.tmp 5, .tmp 8, .tmp 11, .tmp 14]) (vs := [.slice A0 a0.length c0, .slice d1 ((List.replicate (a0.length : Int).toNat (0 : Int)).length) d2, .slice I ((List.replicate (a0.length : Int).toNat (false : Bool)).length) J, .slice c9 ((List.replicate (a0.length : Int).toNat (0 : Int)).length) d0]) (cs := [.slice A0 a0.length c0, .slice none 0 0, i6 0, .slice d1 ((List.replicate (a0.length : Int).toNat (0 : Int)).length) d2, .slice I ((List.replicate (a0.length : Int).toNat (false : Bool)).length) J, .slice c9 ((List.replicate (a0.length : Int).toNat (0 : Int)).length) d0]) rfl rfl rfl rfl rfl rfl) rfl rfl rfl .n ?_; refine At.H.al [11] (Q4 ?_ Q6)
        ··refine At.HO.op rfl ?_
          refine At.box rfl rfl (cs := [.slice A0 a0.length c0, .slice none 0 0, i6 0, .slice d1 ((List.replicate (a0.length : Int).toNat (0 : Int)).length) d2, .slice I ((List.replicate (a0.length : Int).toNat (false : Bool)).length) J, .slice c9 ((List.replicate (a0.length : Int).toNat (0 : Int)).length) d0]) rfl rfl (fun k3 => ?_); refine At.HO.back .n ?_; refine At.H.pw 12 rfl rfl rfl rfl rfl .n ?_; refine At.H.done (by kernel_rfl) ?_; refine At.f1 (At.f3 (At.f3 (At.f3 ?_))); exact At.of (U (k3, c9, d0, I, J, d1, d2) trivial) ⟨rfl, rfl, trivial⟩
  ··refine At.HO.op rfl ?_
    refine At.make (F := (Fl.int .i64)) (z := 0) rfl rfl rfl rfl rfl rfl rfl rfl rfl rfl p.1 p.2 (by decide) rfl (fun L O => ?_); refine At.HO.back .n ?_; refine At.H.al [3, 6] (Q4 ?_ (Q4 ?_ Q6))
    ··refine At.HO.op rfl ?_
      refine At.make (F := (Fl.int .i64)) (z := 0) rfl rfl rfl rfl rfl rfl rfl rfl rfl rfl p.1 p.2 (by decide) rfl (fun d3 d4 => ?_); refine At.HO.back .n ?_; refine At.H.al [6] (Q4 ?_ Q6)
      ··refine At.HO.op rfl ?_
        refine At.make (F := Fl.bool) (z := false) rfl rfl rfl rfl rfl rfl rfl rfl rfl rfl u.1 u.2 (by decide) rfl (fun d5 d6 => ?_); refine At.HO.back .n ?_; refine At.H.tw 10 rfl (Y.build (is := [0, 3, 4, 5]) (xo := [.tmp 5, .tmp 8, .tmp 11, .tmp 14]) (vs := [.slice A0 a0.length c0, .slice d3 ((List.replicate (a0.length : Int).toNat (0 : Int)).length) d4, .slice d5 ((List.replicate (a0.length : Int).toNat (false : Bool)).length) d6, .slice L ((List.replicate (a0.length : Int).toNat (0 : Int)).length) O]) (cs := [.slice A0 a0.length c0, .slice none 0 0, i6 0, .slice d3 ((List.replicate (a0.length : Int).toNat (0 : Int)).length) d4, .slice d5 ((List.replicate (a0.length : Int).toNat (false : Bool)).length) d6, .slice L ((List.replicate (a0.length : Int).toNat (0 : Int)).length) O]) rfl rfl rfl rfl rfl rfl) rfl rfl rfl .n ?_; refine At.H.al [11] (Q4 ?_ Q6)
        ··refine At.HO.op rfl ?_
          refine At.box rfl rfl (cs := [.slice A0 a0.length c0, .slice none 0 0, i6 0, .slice d3 ((List.replicate (a0.length : Int).toNat (0 : Int)).length) d4, .slice d5 ((List.replicate (a0.length : Int).toNat (false : Bool)).length) d6, .slice L ((List.replicate (a0.length : Int).toNat (0 : Int)).length) O]) rfl rfl (fun k4 => ?_); refine At.HO.back .n ?_; refine At.H.pw 12 rfl rfl rfl rfl rfl .n ?_; refine At.H.done (by kernel_rfl) ?_; refine At.f2 (At.f2 (At.f3 (At.f3 ?_))); exact At.of (U (k4, L, O, d5, d6, d3, d4) trivial) ⟨rfl, rfl, trivial⟩
    ··refine At.HO.op rfl ?_
      refine At.make (F := Fl.bool) (z := false) rfl rfl rfl rfl rfl rfl rfl rfl rfl rfl u.1 u.2 (by decide) rfl (fun d7 d8 => ?_); refine At.HO.back .n ?_; refine At.H.al [3] (Q4 ?_ Q6)
      ··refine At.HO.op rfl ?_
        refine At.make (F := (Fl.int .i64)) (z := 0) rfl rfl rfl rfl rfl rfl rfl rfl rfl rfl p.1 p.2 (by decide) rfl (fun d9 e1 => ?_); refine At.HO.back .n ?_; refine At.H.tw 10 rfl (Y.build (is := [0, 3, 4, 5]) (xo := [.tmp 5, .tmp 8, .tmp 11, .tmp 14]) (vs := [.slice A0 a0.length c0, .slice d9 ((List.replicate (a0.length : Int).toNat (0 : Int)).length) e1, .slice d7 ((List.replicate (a0.length : Int).toNat (false : Bool)).length) d8, .slice L ((List.replicate (a0.length : Int).toNat (0 : Int)).length) O]) (cs := [.slice A0 a0.length c0, .slice none 0 0, i6 0, .slice d9 ((List.replicate (a0.length : Int).toNat (0 : Int)).length) e1, .slice d7 ((List.replicate (a0.length : Int).toNat (false : Bool)).length) d8, .slice L ((List.replicate (a0.length : Int).toNat (0 : Int)).length) O]) rfl rfl rfl rfl rfl rfl) rfl rfl rfl .n ?_; refine At.H.al [11] (Q4 ?_ Q6)
        ··refine At.HO.op rfl ?_
          refine At.box rfl rfl (cs := [.slice A0 a0.length c0, .slice none 0 0, i6 0, .slice d9 ((List.replicate (a0.length : Int).toNat (0 : Int)).length) e1, .slice d7 ((List.replicate (a0.length : Int).toNat (false : Bool)).length) d8, .slice L ((List.replicate (a0.length : Int).toNat (0 : Int)).length) O]) rfl rfl (fun k5 => ?_); refine At.HO.back .n ?_; refine At.H.pw 12 rfl rfl rfl rfl rfl .n ?_; refine At.H.done (by kernel_rfl) ?_; refine At.f1 (At.f2 (At.f3 (At.f3 ?_))); exact At.of (U (k5, L, O, d7, d8, d9, e1) trivial) ⟨rfl, rfl, trivial⟩

noncomputable def Q76.f (p u D : Int) (G : Bs) (I : Int) : Option Bool :=
 jn (
 if p = 10 then
 some (.inl true)
 else
 some (.inl (decide (p = 11)))) (fun (q : Bool) =>
 some q)
theorem Q76.callee : Callee Tryz.prog 155 := ⟨_, Tryz.func155, by kernel_rfl, by kernel_rfl⟩
theorem Q76.spec {p u D G : Int} {I : Bs} {r : Bool} (j : Q76.f p u D I G = some r) :
 Spec Tryz.prog 155 [.agg #[i6 p, i6 u, i6 D, .string ⟨(I).toArray⟩, i6 G]] R (Fr) (fun v l' => v = .bool r ∧ Fr = l') := by
 refine Spec.of Tryz.func155 rfl rfl ?_; unfold Q76.f at j; have j := brun j; refine At.seq (At.region ?_); refine At.box rfl rfl (cs := [i6 p, i6 u, i6 D, .string ⟨(I).toArray⟩, i6 G]) rfl rfl (fun O => ?_); refine At.run 1 rfl (nT (sR 1 rfl (At.y (Y.load rfl rfl .z rfl rfl rfl) rfl rfl rfl (At.run 2 rfl ?_)))); obtain ⟨U, V, a0, j⟩ := bjoin j; let Z : HProp := pc O [i6 p, i6 u, i6 D, .string ⟨(I).toArray⟩, i6 G] 171; refine At.joinO 4 (X := Bool) (fun q => [(10, .bool q)]) (fun q => Z :: Fr) (fun q => U (.inl q) = some r) ?_ (fun L => ?_)
 ·rintro q j; have j := (V _).symm.trans j
  ·refine At.run 1 rfl (nT (At.ret (At.drop .z ?_))); cases bret j; exact At.res (.inl rfl) rfl rfl ⟨rfl, rfl⟩
 ··rcases bite j with ⟨J, j⟩ | ⟨J, j⟩
   ··refine At.know (t := 6) rfl (decide_eq_true J) ?_
     refine At.run 4 rfl ?_; exact At.of (L true j) ⟨rfl, trivial⟩
   ··refine At.know (t := 6) rfl (decide_eq_false J) ?_
     refine At.run 1 rfl (At.y (Y.load rfl rfl .z rfl rfl rfl) rfl rfl rfl (At.run 2 rfl ?_)); exact At.of (L (decide (p = 11)) j) ⟨rfl, trivial⟩

noncomputable def Q50.l0b (a0 : List Q9) (u : (List Q14) × (List Int) × (List Bool) × (List Int) × Int) (q : List (Bs × Bool)) (p : Int) : Option (((List (Bs × Bool)) × Int) ⊕ (((List (Bs × Bool))) ⊕ (Int × Int))) :=
 if p < (a0.length : Int) then
 jn (
 if (0 : Int) ≤ p ∧ p < (a0.length : Int) then
 jn (
 if (gt a0 p).Kind = 4 then
 if (0 : Int) ≤ p ∧ p < ((List.replicate (a0.length : Int).toNat (0 : Int)).length : Int) then
 some (.inl (decide (gt u.2.1 p < 0)))
 else none
 else
 some (.inl false)) (fun (D : Bool) =>
 if D = true then
 up (upL (some (11, p)))
 else
 jn (
 if (gt a0 p).Kind = 4 then
 if (0 : Int) ≤ p ∧ p < ((List.replicate (a0.length : Int).toNat (false : Bool)).length : Int) then
 some (.inl (gt u.2.2.1 p))
 else none
 else
 some (.inl false)) (fun (G : Bool) =>
 if G = true then
 up (upL (some (12, p)))
 else
 (Q76.f ((gt a0 p).Kind) ((gt a0 p).A) ((gt a0 p).B) ((gt a0 p).Name) ((gt a0 p).At)).bind fun I =>
 jn (
 if I = true then
 some (.inl ((mget q ((gt a0 p).Name)).getD false))
 else
 some (.inl false)) (fun (J : Bool) =>
 if J = true then
 up (upL (some (9, p)))
 else
 (Q76.f ((gt a0 p).Kind) ((gt a0 p).A) ((gt a0 p).B) ((gt a0 p).Name) ((gt a0 p).At)).bind fun L =>
 jn (
 if L = true then
 if (0 : Int) ≤ p ∧ p < ((List.replicate (a0.length : Int).toNat (0 : Int)).length : Int) then
 some (.inl (decide (4 < gt u.2.2.2.1 p)))
 else none
 else
 some (.inl false)) (fun (O : Bool) =>
 if O = true then
 up (upL (some (13, p)))
 else
 (Q76.f ((gt a0 p).Kind) ((gt a0 p).A) ((gt a0 p).B) ((gt a0 p).Name) ((gt a0 p).At)).bind fun U =>
 if U = true then
 some (.inl (mset q ((gt a0 p).Name) true))
 else
 some (.inl q)))))
 else none) (fun (V : List (Bs × Bool)) =>
 nx (V, IntKind.i64.wrap (p + 1)))
 else
 dn (.inl q)
noncomputable def Q50.l0 (a0 : List Q9) (p : (List Q14) × (List Int) × (List Bool) × (List Int) × Int) (q : List (Bs × Bool)) (u : Int) : Option (((List (Bs × Bool))) ⊕ (Int × Int)) := iter (fun t_ : (List (Bs × Bool)) × Int => Q50.l0b a0 p t_.1 t_.2) (q, u)
noncomputable def Q50.f (a0 : List Q9) : Option (Int × Int) :=
 (Q39.f a0).bind fun p =>
 if p = true then
 (Q40.f a0).bind fun q =>
 jn (Q50.l0 a0 q ([] : List (Bs × Bool)) 0) (fun (u : List (Bs × Bool)) =>
 some (0, 0))
 else
 some (1, 0)
theorem Q50.callee : Callee Tryz.prog 113 := ⟨_, Tryz.func113, by kernel_rfl, by kernel_rfl⟩
theorem Q50.spec {a0 : List Q9} (hr0 : RdS Q9.fl.rep R.heap A0 a0) (hn0 : a0.length = n0) (hc0 : n0 ≤ c0) {r : Int × Int} (j : Q50.f a0 = some r) :
 Spec Tryz.prog 113 [.slice A0 n0 c0] R (Fr) (fun v l' => v = .tuple #[i6 r.2, i6 r.1] ∧ Fr = l') := by
 subst hn0; refine Spec.of Tryz.func113 rfl rfl ?_; unfold Q50.f at j; have j := brun j; refine sR 2 rfl (nT (At.seq (At.seq (At.region ?_)))); refine At.run 1 rfl ?_; obtain ⟨h6, f6, j⟩ := bbind j; refine At.call rfl Q39.callee rfl rfl rfl (Q39.spec hr0 rfl hc0 f6) ?_; rintro _ _ ⟨rfl, rfl⟩; refine At.run 1 rfl (nT ?_); rcases bite j with ⟨c9, j⟩ | ⟨c9, j⟩
 ··refine At.condF rfl (nf c9) ?_
   refine At.skip (At.thn (sR 1 rfl ?_)); obtain ⟨D, f7, j⟩ := bbind j; refine At.call rfl Q40.callee rfl rfl rfl (Q40.spec hr0 rfl hc0 f7) ?_; rintro _ _ ⟨I, h7, e3, e4, e5, e6, e7, e8, e9, f0, rfl, rfl, rfl⟩; refine At.run 1 rfl (nT (At.seq (At.region ?_))); refine At.makeMap Fl.bs.ov Fl.bool.ov rfl rfl (fun u => ?_); refine At.run 1 rfl (nT (At.seq (sR 3 rfl (At.nil ?_)))); refine At.thn ?_; refine At.block ?_; obtain ⟨f8, f9, b4, j⟩ := bjoin j; obtain ⟨J, d0, a2⟩ := bsome j; clear j; unfold Q50.l0 at d0; obtain ⟨d1, a3⟩ := Q16.1 d0; clear d0; let L : HProp := pc I [.slice A0 a0.length c0, .slice e3 D.1.length e4, i6 D.2.2.2.2, .slice e5 ((List.replicate (a0.length : Int).toNat (0 : Int)).length) e6, .slice e7 ((List.replicate (a0.length : Int).toNat (false : Bool)).length) e8, .slice e9 ((List.replicate (a0.length : Int).toNat (0 : Int)).length) f0] 225; let O : HProp := row Q14.fl 272 e3 D.1.length e4 D.1; let U : HProp := row (Fl.int .i64) 3 e5 ((List.replicate (a0.length : Int).toNat (0 : Int)).length) e6 D.2.1; let V : HProp := row Fl.bool 4 e7 ((List.replicate (a0.length : Int).toNat (false : Bool)).length) e8 D.2.2.1; let Z : HProp := row (Fl.int .i64) 3 e9 ((List.replicate (a0.length : Int).toNat (0 : Int)).length) f0 D.2.2.2.1; refine At.loopJ (X := (List (Bs × Bool)) × Int) (Y := (List (Bs × Bool))) (e0 := 0) (fun s_ => [(4, bp I), (5, .map (some u)), (14, .slice A0 a0.length c0), (15, i6 (a0.length : Int)), (16, i6 s_.2)]) (fun s_ => mapo Fl.bs.ov Fl.bool.ov u s_.1 :: L :: O :: U :: V :: Z :: Fr) (fun m_ => fun s_ => iterN (fun t_ : (List (Bs × Bool)) × Int => Q50.l0b a0 D t_.1 t_.2) m_ (s_.1, s_.2) = some J) d1 (([] : List (Bs × Bool)), 0) a3 (fun a4 => []) (fun a4 => mapo Fl.bs.ov Fl.bool.ov u a4 :: L :: O :: U :: V :: Z :: Fr) (fun a4 => f8 (.inl a4) = some r) (fun a w e hs => ⟨e.sub ⟨rfl, rfl, rfl, rfl, rfl, trivial⟩, (by exact hs)⟩) ?_ (fun g0 => ?_)
   ·rintro a4 j; have j := (f9 _).symm.trans j
    ·refine At.ibx ?_; refine At.thn (sR 2 rfl (nT (At.ret (At.drop .z ?_)))); refine At.drop .z (At.drop .z (At.drop .z (At.drop .z (At.drop .z ?_)))); cases bret j; exact At.res (.inl rfl) rfl rfl ⟨rfl, rfl⟩
   ·clear a3 d1; rintro d1 ⟨G, p⟩ a3; obtain ⟨g1, f_, g2, hf_, j⟩ := bit a3; clear a3; have j : (Q50.l0b a0 D G p).bind _ = some J := j; unfold Q50.l0b at j
    ·refine sR 1 rfl (nT (At.seq ?_)); rcases bite j with ⟨d2, j⟩ | ⟨d2, j⟩
     ··refine At.condT rfl (decide_eq_true d2) ?_
       refine At.skip (At.thn (At.seq ?_)); obtain ⟨g3, g4, b5, j⟩ := bjoin j; refine At.join (X := (List (Bs × Bool))) (fun a1 => [(4, bp I), (5, .map (some u)), (14, .slice A0 a0.length c0), (15, i6 (a0.length : Int)), (16, i6 p)]) (fun a1 => mapo Fl.bs.ov Fl.bool.ov u a1 :: L :: O :: U :: V :: Z :: Fr) (fun a1 => g3 (.inl a1) = some J) ?_ (fun f1 => ?_)
       ·rintro a1 j; have j := (g4 _).symm.trans j
        ·refine At.region (At.run 2 rfl (At.nil ?_)); have j := bnx hf_ j; exact fun a w e hs => ⟨g1, (a1, IntKind.i64.wrap (p + 1)), g2, j, e.sub ⟨rfl, rfl, rfl, rfl, rfl, trivial⟩, hs⟩
       ··refine At.block ?_
         refine sR 1 rfl ?_; obtain ⟨b6, j⟩ := bnone j; refine At.y (Y.ixRd hr0 rfl rfl rfl rfl rfl rfl rfl b6.1 b6.2) rfl rfl rfl (At.y (Y.ldFl hr0 rfl (q := 0) rfl rfl b6.1 b6.2 rfl rfl rfl) rfl rfl rfl ?_); refine At.alloc rfl rfl rfl (fun a5 => ?_); refine At.run 1 rfl ?_; refine At.store rfl rfl rfl rfl .z rfl rfl rfl (.c (.c (.c (.c (.c .n))))) ?_; refine nT (At.seq ?_); refine At.block ?_; refine sR 1 rfl (At.y (Y.load rfl rfl .z rfl rfl rfl) rfl rfl rfl (At.run 2 rfl ?_)); obtain ⟨g5, g6, h8, j⟩ := bjoin j; let b7 : HProp := pc a5 [i6 ((gt a0 p).Kind), i6 ((gt a0 p).A), i6 ((gt a0 p).B), .string ⟨((gt a0 p).Name).toArray⟩, i6 ((gt a0 p).At)] 171; refine At.joinO 9 (X := Bool) (fun a6 => [(4, bp I), (5, .map (some u)), (6, i6 p), (7, bp a5), (14, .slice A0 a0.length c0), (15, i6 (a0.length : Int)), (16, i6 p), (34, .bool a6)]) (fun a6 => b7 :: mapo Fl.bs.ov Fl.bool.ov u G :: L :: O :: U :: V :: Z :: Fr) (fun a6 => g5 (.inl a6) = some J) ?_ (fun f2 => ?_)
         ·rintro a6 j; have j := (g6 _).symm.trans j
          ·refine At.run 1 rfl (nT ?_); rcases bite j with ⟨d3, j⟩ | ⟨d3, j⟩
           ··refine At.condT rfl d3 ?_
             refine sR 3 rfl (nT (At.ret ?_)); refine At.ibr ?_; refine At.thr ?_; refine At.ibr ?_; have j := bup b5 j; refine At.thr ?_; have j := bupL b4 a2 j; refine At.thr ?_; refine At.ibr ?_; refine At.thr (At.drop .z (At.drop .z (At.drop .z (At.drop .z (At.drop .z (At.drop .z (At.drop .z ?_))))))); cases bret j; exact At.res (.inl rfl) rfl rfl ⟨rfl, rfl⟩
           ··refine At.condF rfl (bn d3) ?_
             refine sR 1 rfl (At.y (Y.load rfl rfl .z rfl rfl rfl) rfl rfl rfl (At.run 2 rfl ?_)); obtain ⟨g7, g8, h9, j⟩ := bjoin j; refine At.joinO 8 (X := Bool) (fun a7 => [(4, bp I), (5, .map (some u)), (6, i6 p), (7, bp a5), (14, .slice A0 a0.length c0), (15, i6 (a0.length : Int)), (16, i6 p), (48, .bool a7)]) (fun a7 => b7 :: mapo Fl.bs.ov Fl.bool.ov u G :: L :: O :: U :: V :: Z :: Fr) (fun a7 => g7 (.inl a7) = some J) ?_ (fun f3 => ?_)
             ·rintro a7 j; have j := (g8 _).symm.trans j
              ·refine At.run 1 rfl (nT ?_); rcases bite j with ⟨d4, j⟩ | ⟨d4, j⟩
               ··refine At.condT rfl d4 ?_
                 refine sR 3 rfl (nT (At.ret ?_)); refine At.ibr ?_; refine At.thr ?_; refine At.ibr ?_; have j := bup b5 j; refine At.thr ?_; have j := bupL b4 a2 j; refine At.thr ?_; refine At.ibr ?_; refine At.thr (At.drop .z (At.drop .z (At.drop .z (At.drop .z (At.drop .z (At.drop .z (At.drop .z ?_))))))); cases bret j; exact At.res (.inl rfl) rfl rfl ⟨rfl, rfl⟩
               ··refine At.condF rfl (bn d4) ?_
                 refine At.seq (At.region (At.y (Y.load rfl rfl .z rfl rfl rfl) rfl rfl rfl ?_)); obtain ⟨k0, g9, j⟩ := bbind j; refine At.call rfl Q76.callee rfl rfl rfl (Q76.spec g9) ?_; rintro _ _ ⟨rfl, rfl⟩; refine At.run 1 rfl ?_; obtain ⟨h0, h1, k1, j⟩ := bjoin j; refine At.joinO 5 (X := Bool) (fun a8 => [(4, bp I), (5, .map (some u)), (6, i6 p), (7, bp a5), (14, .slice A0 a0.length c0), (15, i6 (a0.length : Int)), (16, i6 p), (58, .bool a8)]) (fun a8 => b7 :: mapo Fl.bs.ov Fl.bool.ov u G :: L :: O :: U :: V :: Z :: Fr) (fun a8 => h0 (.inl a8) = some J) ?_ (fun f4 => ?_)
                 ·rintro a8 j; have j := (h1 _).symm.trans j
                  ·refine At.run 1 rfl (nT ?_); rcases bite j with ⟨d5, j⟩ | ⟨d5, j⟩
                   ··refine At.condT rfl d5 ?_
                     refine sR 3 rfl (nT (At.ret ?_)); refine At.ibr ?_; refine At.thr ?_; refine At.ibr ?_; have j := bup b5 j; refine At.thr ?_; have j := bupL b4 a2 j; refine At.thr ?_; refine At.ibr ?_; refine At.thr (At.drop .z (At.drop .z (At.drop .z (At.drop .z (At.drop .z (At.drop .z (At.drop .z ?_))))))); cases bret j; exact At.res (.inl rfl) rfl rfl ⟨rfl, rfl⟩
                   ··refine At.condF rfl (bn d5) ?_
                     refine At.seq (At.region (At.y (Y.load rfl rfl .z rfl rfl rfl) rfl rfl rfl ?_)); obtain ⟨k2, h2, j⟩ := bbind j; refine At.call rfl Q76.callee rfl rfl rfl (Q76.spec h2) ?_; rintro _ _ ⟨rfl, rfl⟩; refine At.run 1 rfl ?_; obtain ⟨h3, h4, k3, j⟩ := bjoin j; refine At.joinO 9 (X := Bool) (fun a9 => [(4, bp I), (5, .map (some u)), (6, i6 p), (7, bp a5), (14, .slice A0 a0.length c0), (15, i6 (a0.length : Int)), (16, i6 p), (72, .bool a9)]) (fun a9 => b7 :: mapo Fl.bs.ov Fl.bool.ov u G :: L :: O :: U :: V :: Z :: Fr) (fun a9 => h3 (.inl a9) = some J) ?_ (fun f5 => ?_)
                     ·rintro a9 j; have j := (h4 _).symm.trans j
                      ·refine At.run 1 rfl (nT ?_); rcases bite j with ⟨d6, j⟩ | ⟨d6, j⟩
                       ··refine At.condT rfl d6 ?_
                         refine sR 3 rfl (nT (At.ret ?_)); refine At.ibr ?_; refine At.thr ?_; refine At.ibr ?_; have j := bup b5 j; refine At.thr ?_; have j := bupL b4 a2 j; refine At.thr ?_; refine At.ibr ?_; refine At.thr (At.drop .z (At.drop .z (At.drop .z (At.drop .z (At.drop .z (At.drop .z (At.drop .z ?_))))))); cases bret j; exact At.res (.inl rfl) rfl rfl ⟨rfl, rfl⟩
                       ··refine At.condF rfl (bn d6) ?_
                         refine At.skip ?_; refine At.ibn ?_; refine At.thn (At.seq (At.region (At.y (Y.load rfl rfl .z rfl rfl rfl) rfl rfl rfl ?_))); obtain ⟨k4, h5, j⟩ := bbind j; refine At.call rfl Q76.callee rfl rfl rfl (Q76.spec h5) ?_; rintro _ _ ⟨rfl, rfl⟩; refine nT ?_; rcases bite j with ⟨d7, j⟩ | ⟨d7, j⟩
                         ··refine At.condT rfl d7 ?_
                           refine At.region (At.run 2 rfl (At.y (Y.load rfl rfl .z rfl rfl rfl) rfl rfl rfl ?_)); refine At.mapUpdate (k := ((gt a0 p).Name)) (v := true) rfl (.s .z) rfl rfl (KeyOk.str rfl rfl) rfl rfl rfl rfl rfl ?_; refine At.nil ?_; refine At.ibn ?_; refine At.thn (At.drop (.s .z) ?_); exact fun a w e hs => f1 (mset G ((gt a0 p).Name) true) j a w (e.sub ⟨rfl, rfl, rfl, rfl, rfl, trivial⟩) hs
                         ··refine At.condF rfl (bn d7) ?_
                           refine At.skip ?_; refine At.ibn ?_; refine At.thn (At.drop .z ?_); exact fun a w e hs => f1 G j a w (e.sub ⟨rfl, rfl, rfl, rfl, rfl, trivial⟩) hs
                     ··rcases bite j with ⟨d8, j⟩ | ⟨d8, j⟩
                       ··refine At.know (t := 63) rfl d8 ?_
                         refine At.run 3 rfl (At.y (Y.load rfl rfl (.s (.s .z)) rfl rfl rfl) rfl rfl rfl (At.run 1 rfl ?_)); obtain ⟨b8, j⟩ := bnone j; refine At.y (Y.ix (.s (.s (.s (.s (.s (.s .z)))))) rfl rfl rfl rfl rfl rfl b8.1 b8.2) rfl rfl rfl ?_; refine At.y (Y.ld (.s (.s (.s (.s (.s (.s .z)))))) (q := 0) rfl rfl b8.1 b8.2 rfl rfl rfl) rfl rfl rfl ?_; refine At.run 2 rfl ?_; exact At.of (f5 (decide (4 < gt D.2.2.2.1 p)) j) ⟨rfl, rfl, rfl, rfl, rfl, rfl, rfl, rfl, trivial⟩
                       ··refine At.know (t := 63) rfl (bn d8) ?_
                         refine At.run 9 rfl ?_; exact At.of (f5 false j) ⟨rfl, rfl, rfl, rfl, rfl, rfl, rfl, rfl, trivial⟩
                 ··rcases bite j with ⟨d9, j⟩ | ⟨d9, j⟩
                   ··refine At.know (t := 53) rfl d9 ?_
                     refine At.run 2 rfl (At.y (Y.load rfl rfl .z rfl rfl rfl) rfl rfl rfl ?_); refine At.y (Y.lookup (k := ((gt a0 p).Name)) (z := false) (.s .z) rfl rfl (KeyOk.str rfl rfl) (by kernel_rfl) rfl rfl rfl) rfl rfl rfl ?_; refine At.run 1 rfl ?_; exact At.of (f4 ((mget G ((gt a0 p).Name)).getD false) j) ⟨rfl, rfl, rfl, rfl, rfl, rfl, rfl, rfl, trivial⟩
                   ··refine At.know (t := 53) rfl (bn d9) ?_
                     refine At.run 5 rfl ?_; exact At.of (f4 false j) ⟨rfl, rfl, rfl, rfl, rfl, rfl, rfl, rfl, trivial⟩
             ··rcases bite j with ⟨e1, j⟩ | ⟨e1, j⟩
               ··refine At.know (t := 40) rfl (decide_eq_true e1) ?_
                 refine At.run 3 rfl (At.y (Y.load rfl rfl (.s (.s .z)) rfl rfl rfl) rfl rfl rfl (At.run 1 rfl ?_)); obtain ⟨b9, j⟩ := bnone j; refine At.y (Y.ix (.s (.s (.s (.s (.s .z))))) rfl rfl rfl rfl rfl rfl b9.1 b9.2) rfl rfl rfl ?_; refine At.y (Y.ld (.s (.s (.s (.s (.s .z))))) (q := 0) rfl rfl b9.1 b9.2 rfl rfl rfl) rfl rfl rfl ?_; refine At.run 1 rfl ?_; exact At.of (f3 (gt D.2.2.1 p) j) ⟨rfl, rfl, rfl, rfl, rfl, rfl, rfl, rfl, trivial⟩
               ··refine At.know (t := 40) rfl (decide_eq_false e1) ?_
                 refine At.run 8 rfl ?_; exact At.of (f3 false j) ⟨rfl, rfl, rfl, rfl, rfl, rfl, rfl, rfl, trivial⟩
         ··rcases bite j with ⟨e2, j⟩ | ⟨e2, j⟩
           ··refine At.know (t := 25) rfl (decide_eq_true e2) ?_
             refine At.run 3 rfl (At.y (Y.load rfl rfl (.s (.s .z)) rfl rfl rfl) rfl rfl rfl (At.run 1 rfl ?_)); obtain ⟨c8, j⟩ := bnone j; refine At.y (Y.ix (.s (.s (.s (.s .z)))) rfl rfl rfl rfl rfl rfl c8.1 c8.2) rfl rfl rfl ?_; refine At.y (Y.ld (.s (.s (.s (.s .z)))) (q := 0) rfl rfl c8.1 c8.2 rfl rfl rfl) rfl rfl rfl ?_; refine At.run 2 rfl ?_; exact At.of (f2 (decide (gt D.2.1 p < 0)) j) ⟨rfl, rfl, rfl, rfl, rfl, rfl, rfl, rfl, trivial⟩
           ··refine At.know (t := 25) rfl (decide_eq_false e2) ?_
             refine At.run 9 rfl ?_; exact At.of (f2 false j) ⟨rfl, rfl, rfl, rfl, rfl, rfl, rfl, rfl, trivial⟩
     ··refine At.condF rfl (decide_eq_false d2) ?_
       refine At.exit ?_; refine At.the ?_; refine At.the ?_; exact fun a w e hs => g0 G (bdn j a2) a w (e.sub trivial) hs
 ··refine At.condT rfl (nt (bn c9)) ?_
   refine sR 2 rfl (nT (At.ret (At.thr ?_))); cases bret j; exact At.res (.inl rfl) rfl rfl ⟨rfl, rfl⟩

noncomputable def Q103.f (a0 : List Q9) : Option (List Int) :=
 (Q39.f a0).bind fun p =>
 if p = true then
 (Q40.f a0).bind fun q =>
 some q.2.1
 else
 some ([] : List Int)
theorem Q103.callee : Callee Tryz.prog 114 := ⟨_, Tryz.func114, by kernel_rfl, by kernel_rfl⟩
theorem Q103.spec {a0 : List Q9} (hr0 : RdS Q9.fl.rep R.heap A0 a0) (hn0 : a0.length = n0) (hc0 : n0 ≤ c0) {r : (List Int)} (j : Q103.f a0 = some r) :
 Spec Tryz.prog 114 [.slice A0 n0 c0] R (Fr) (fun v l' => ∃ (p : Nat) (u : Option Addr) (D : Nat), v = .slice u p D ∧ row (Fl.int .i64) 3 u p D r :: Fr = l' ∧ r.length = p) := by
 subst hn0; refine Spec.of Tryz.func114 rfl rfl ?_; unfold Q103.f at j; have j := brun j; refine sR 1 rfl (nT (At.seq (At.seq (At.region ?_)))); refine At.run 1 rfl ?_; obtain ⟨U, G, j⟩ := bbind j; refine At.call rfl Q39.callee rfl rfl rfl (Q39.spec hr0 rfl hc0 G) ?_; rintro _ _ ⟨rfl, rfl⟩; refine At.run 1 rfl (nT ?_); rcases bite j with ⟨q, j⟩ | ⟨q, j⟩
 ··refine At.condF rfl (nf q) ?_
   refine At.skip (At.thn (sR 1 rfl ?_)); obtain ⟨V, I, j⟩ := bbind j; refine At.call rfl Q40.callee rfl rfl rfl (Q40.spec hr0 rfl hc0 I) ?_; rintro _ _ ⟨X, Z, a1, a2, J, L, a3, a4, a5, a6, rfl, rfl, rfl⟩; refine At.run 2 rfl (At.y (Y.load rfl rfl .z rfl rfl rfl) rfl rfl rfl (At.run 1 rfl (nT (At.ret ?_)))); refine At.rowLen (.s (.s .z)) fun O => ?_; refine At.drop .z (At.drop .z (At.drop (.s .z) (At.drop (.s .z) ?_))); cases bret j; exact At.res (.inl rfl) rfl rfl ⟨(List.replicate (a0.length : Int).toNat (0 : Int)).length, J, L, rfl, rfl, O⟩
 ··refine At.condT rfl (nt (bn q)) ?_
   refine sR 1 rfl (nT (At.ret (At.thr ?_))); refine At.nilRow (Fl.int .i64) 3 ?_; cases bret j; exact At.res (.inl rfl) rfl rfl ⟨0, none, 0, rfl, rfl, rfl⟩

noncomputable def Q81.f (a0 : Int) : Option (Int × Int × Int × Int) :=
 jn (
 if 256 < (if a0 < 0 then 0 else a0) then
 if (0 : Int) ≤ IntKind.u64.wrap 64 then
 some (.inl (IntKind.u64.wrap ((Bw.shl .u64 1 (IntKind.u64.wrap 64)) - 1)))
 else none
 else
 if (0 : Int) ≤ IntKind.u64.wrap (if 64 < (if IntKind.i64.wrap ((if a0 < 0 then 0 else a0) - 0) < 0 then 0 else IntKind.i64.wrap ((if a0 < 0 then 0 else a0) - 0)) then 64 else (if IntKind.i64.wrap ((if a0 < 0 then 0 else a0) - 0) < 0 then 0 else IntKind.i64.wrap ((if a0 < 0 then 0 else a0) - 0))) then
 some (.inl (IntKind.u64.wrap ((Bw.shl .u64 1 (IntKind.u64.wrap (if 64 < (if IntKind.i64.wrap ((if a0 < 0 then 0 else a0) - 0) < 0 then 0 else IntKind.i64.wrap ((if a0 < 0 then 0 else a0) - 0)) then 64 else (if IntKind.i64.wrap ((if a0 < 0 then 0 else a0) - 0) < 0 then 0 else IntKind.i64.wrap ((if a0 < 0 then 0 else a0) - 0))))) - 1)))
 else none) (fun (p : Int) =>
 jn (
 if 256 < (if a0 < 0 then 0 else a0) then
 if (0 : Int) ≤ IntKind.u64.wrap 64 then
 some (.inl (IntKind.u64.wrap ((Bw.shl .u64 1 (IntKind.u64.wrap 64)) - 1)))
 else none
 else
 if (0 : Int) ≤ IntKind.u64.wrap (if 64 < (if IntKind.i64.wrap ((if a0 < 0 then 0 else a0) - 64) < 0 then 0 else IntKind.i64.wrap ((if a0 < 0 then 0 else a0) - 64)) then 64 else (if IntKind.i64.wrap ((if a0 < 0 then 0 else a0) - 64) < 0 then 0 else IntKind.i64.wrap ((if a0 < 0 then 0 else a0) - 64))) then
 some (.inl (IntKind.u64.wrap ((Bw.shl .u64 1 (IntKind.u64.wrap (if 64 < (if IntKind.i64.wrap ((if a0 < 0 then 0 else a0) - 64) < 0 then 0 else IntKind.i64.wrap ((if a0 < 0 then 0 else a0) - 64)) then 64 else (if IntKind.i64.wrap ((if a0 < 0 then 0 else a0) - 64) < 0 then 0 else IntKind.i64.wrap ((if a0 < 0 then 0 else a0) - 64))))) - 1)))
 else none) (fun (q : Int) =>
 jn (
 if 256 < (if a0 < 0 then 0 else a0) then
 if (0 : Int) ≤ IntKind.u64.wrap 64 then
 some (.inl (IntKind.u64.wrap ((Bw.shl .u64 1 (IntKind.u64.wrap 64)) - 1)))
 else none
 else
 if (0 : Int) ≤ IntKind.u64.wrap (if 64 < (if IntKind.i64.wrap ((if a0 < 0 then 0 else a0) - 128) < 0 then 0 else IntKind.i64.wrap ((if a0 < 0 then 0 else a0) - 128)) then 64 else (if IntKind.i64.wrap ((if a0 < 0 then 0 else a0) - 128) < 0 then 0 else IntKind.i64.wrap ((if a0 < 0 then 0 else a0) - 128))) then
 some (.inl (IntKind.u64.wrap ((Bw.shl .u64 1 (IntKind.u64.wrap (if 64 < (if IntKind.i64.wrap ((if a0 < 0 then 0 else a0) - 128) < 0 then 0 else IntKind.i64.wrap ((if a0 < 0 then 0 else a0) - 128)) then 64 else (if IntKind.i64.wrap ((if a0 < 0 then 0 else a0) - 128) < 0 then 0 else IntKind.i64.wrap ((if a0 < 0 then 0 else a0) - 128))))) - 1)))
 else none) (fun (u : Int) =>
 jn (
 if 256 < (if a0 < 0 then 0 else a0) then
 if (0 : Int) ≤ IntKind.u64.wrap 64 then
 some (.inl (IntKind.u64.wrap ((Bw.shl .u64 1 (IntKind.u64.wrap 64)) - 1)))
 else none
 else
 if (0 : Int) ≤ IntKind.u64.wrap (if 64 < (if IntKind.i64.wrap ((if a0 < 0 then 0 else a0) - 192) < 0 then 0 else IntKind.i64.wrap ((if a0 < 0 then 0 else a0) - 192)) then 64 else (if IntKind.i64.wrap ((if a0 < 0 then 0 else a0) - 192) < 0 then 0 else IntKind.i64.wrap ((if a0 < 0 then 0 else a0) - 192))) then
 some (.inl (IntKind.u64.wrap ((Bw.shl .u64 1 (IntKind.u64.wrap (if 64 < (if IntKind.i64.wrap ((if a0 < 0 then 0 else a0) - 192) < 0 then 0 else IntKind.i64.wrap ((if a0 < 0 then 0 else a0) - 192)) then 64 else (if IntKind.i64.wrap ((if a0 < 0 then 0 else a0) - 192) < 0 then 0 else IntKind.i64.wrap ((if a0 < 0 then 0 else a0) - 192))))) - 1)))
 else none) (fun (D : Int) =>
 some (p, q, u, D)))))
theorem Q81.callee : Callee Tryz.prog 115 := ⟨_, Tryz.func115, by kernel_rfl, by kernel_rfl⟩
theorem Q81.spec {a0 : Int} {r : Int × Int × Int × Int} (j : Q81.f a0 = some r) :
 Spec Tryz.prog 115 [i6 a0] R (Fr) (fun v l' => v = .agg #[.int .u64 r.1, .int .u64 r.2.1, .int .u64 r.2.2.1, .int .u64 r.2.2.2] ∧ Fr = l') := by
 refine Spec.of Tryz.func115 rfl rfl ?_; unfold Q81.f at j; have j := brun j; refine At.seq (At.region ?_); refine At.alloc rfl rfl rfl (fun I => ?_); refine nT (At.seq (At.region ?_)); refine At.alloc rfl rfl rfl (fun p => ?_); refine nT (sR 3 rfl (nT (At.seq ?_))); refine sR 1 rfl (nT ?_); refine At.block ?_; refine At.rounds 5 ?_; refine At.round ?_; refine sR 1 rfl (nT (At.seq ?_)); refine At.condT rfl rfl ?_; refine At.skip (At.thn (At.seq ?_)); obtain ⟨a5, a6, d3, j⟩ := bjoin j; let L : HProp := pt I (.cells ([.int .u64 0, .int .u64 0, .int .u64 0, .int .u64 0] : List Value).toArray 43); refine At.join (X := Int) (fun u => [(0, i6 (if a0 < 0 then 0 else a0)), (2, bp I), (3, bp p), (8, i6 0)]) (fun u => pc p [.int .u64 u, .int .u64 0, .int .u64 0, .int .u64 0] 43 :: L :: Fr) (fun u => a5 (.inl u) = some r) ?_ (fun a1 => ?_)
 ·rintro u j; have j := (a6 _).symm.trans j
  ·refine At.region (At.run 2 rfl (nT ?_)); refine At.round ?_; refine sR 1 rfl (nT (At.seq ?_)); refine At.condT rfl rfl ?_; refine At.skip (At.thn (At.seq ?_)); obtain ⟨a7, a8, d4, j⟩ := bjoin j; refine At.join (X := Int) (fun D => [(0, i6 (if a0 < 0 then 0 else a0)), (2, bp I), (3, bp p), (8, i6 1)]) (fun D => pc p [.int .u64 u, .int .u64 D, .int .u64 0, .int .u64 0] 43 :: L :: Fr) (fun D => a7 (.inl D) = some r) ?_ (fun a2 => ?_)
   ·rintro D j; have j := (a8 _).symm.trans j
    ·refine At.region (At.run 2 rfl (nT ?_)); refine At.round ?_; refine sR 1 rfl (nT (At.seq ?_)); refine At.condT rfl rfl ?_; refine At.skip (At.thn (At.seq ?_)); obtain ⟨a9, b4, d5, j⟩ := bjoin j; refine At.join (X := Int) (fun G => [(0, i6 (if a0 < 0 then 0 else a0)), (2, bp I), (3, bp p), (8, i6 2)]) (fun G => pc p [.int .u64 u, .int .u64 D, .int .u64 G, .int .u64 0] 43 :: L :: Fr) (fun G => a9 (.inl G) = some r) ?_ (fun a3 => ?_)
     ·rintro G j; have j := (b4 _).symm.trans j
      ·refine At.region (At.run 2 rfl (nT ?_)); refine At.round ?_; refine sR 1 rfl (nT (At.seq ?_)); refine At.condT rfl rfl ?_; refine At.skip (At.thn (At.seq ?_)); obtain ⟨b5, b6, d6, j⟩ := bjoin j; refine At.join (X := Int) (fun J => [(0, i6 (if a0 < 0 then 0 else a0)), (2, bp I), (3, bp p), (8, i6 3)]) (fun J => pc p [.int .u64 u, .int .u64 D, .int .u64 G, .int .u64 J] 43 :: L :: Fr) (fun J => b5 (.inl J) = some r) ?_ (fun a4 => ?_)
       ·rintro J j; have j := (b6 _).symm.trans j
        ·refine At.region (At.run 2 rfl (nT ?_)); refine At.round ?_; refine sR 1 rfl (nT (At.seq ?_)); refine At.condF rfl rfl ?_; refine At.exit ?_; refine At.the ?_; refine At.the ?_; refine At.ibx ?_; refine At.thn (At.seq (At.region (At.y (Y.load rfl rfl .z rfl rfl rfl) rfl rfl rfl ?_))); refine At.store rfl rfl rfl rfl (.s .z) rfl rfl rfl (.c (.c (.c (.c .n)))) ?_; refine nT (At.ret ?_); refine At.resM (.inl rfl) rfl (RV.cell rfl rfl .z rfl rfl rfl RV.nil) ?_; refine At.drop .z (At.drop .z ?_); cases bret j; exact fun a w e hs => ⟨_, ⟨rfl, rfl⟩, hs⟩
       ··refine At.block ?_
         refine sR 2 rfl (nT (sR 7 rfl ?_)); refine nT (At.seq (sR 2 rfl (nT ?_))); rcases bite j with ⟨O, j⟩ | ⟨O, j⟩
         ··refine At.condT rfl (decide_eq_true O) ?_
           refine At.region (At.run 1 rfl (nT (At.region (At.run 3 rfl ?_)))); obtain ⟨b7, j⟩ := bnone j; refine At.y (Y.shl rfl rfl b7) rfl rfl rfl (At.run 1 rfl (At.y (Y.ixArrK rfl rfl rfl rfl rfl (show (0 : Int) ≤ 3 ∧ (3 : Int) < 4 by decide).1 (show (0 : Int) ≤ 3 ∧ (3 : Int) < 4 by decide).2 (q := 3) (off := 3) rfl rfl) rfl rfl rfl ?_)); refine At.store rfl rfl rfl rfl .z rfl rfl rfl (.s (.s (.s (.c .n)))) ?_; refine At.nil ?_; refine At.ibn ?_; refine At.thn ?_; exact fun a w e hs => a4 (IntKind.u64.wrap ((Bw.shl .u64 1 (IntKind.u64.wrap 64)) - 1)) j a w (e.sub ⟨rfl, rfl, rfl, rfl, trivial⟩) hs
         ··refine At.condF rfl (decide_eq_false O) ?_
           refine At.skip (At.thn (At.region (At.run 3 rfl ?_))); obtain ⟨b8, j⟩ := bnone j; refine At.y (Y.shl rfl rfl b8) rfl rfl rfl (At.run 1 rfl (At.y (Y.ixArrK rfl rfl rfl rfl rfl (show (0 : Int) ≤ 3 ∧ (3 : Int) < 4 by decide).1 (show (0 : Int) ≤ 3 ∧ (3 : Int) < 4 by decide).2 (q := 3) (off := 3) rfl rfl) rfl rfl rfl ?_)); refine At.store rfl rfl rfl rfl .z rfl rfl rfl (.s (.s (.s (.c .n)))) ?_; refine At.nil ?_; refine At.ibn ?_; refine At.thn ?_; exact fun a w e hs => a4 (IntKind.u64.wrap ((Bw.shl .u64 1 (IntKind.u64.wrap (if 64 < (if IntKind.i64.wrap ((if a0 < 0 then 0 else a0) - 192) < 0 then 0 else IntKind.i64.wrap ((if a0 < 0 then 0 else a0) - 192)) then 64 else (if IntKind.i64.wrap ((if a0 < 0 then 0 else a0) - 192) < 0 then 0 else IntKind.i64.wrap ((if a0 < 0 then 0 else a0) - 192))))) - 1)) j a w (e.sub ⟨rfl, rfl, rfl, rfl, trivial⟩) hs
     ··refine At.block ?_
       refine sR 2 rfl (nT (sR 7 rfl ?_)); refine nT (At.seq (sR 2 rfl (nT ?_))); rcases bite j with ⟨U, j⟩ | ⟨U, j⟩
       ··refine At.condT rfl (decide_eq_true U) ?_
         refine At.region (At.run 1 rfl (nT (At.region (At.run 3 rfl ?_)))); obtain ⟨b9, j⟩ := bnone j; refine At.y (Y.shl rfl rfl b9) rfl rfl rfl (At.run 1 rfl (At.y (Y.ixArrK rfl rfl rfl rfl rfl (show (0 : Int) ≤ 2 ∧ (2 : Int) < 4 by decide).1 (show (0 : Int) ≤ 2 ∧ (2 : Int) < 4 by decide).2 (q := 2) (off := 2) rfl rfl) rfl rfl rfl ?_)); refine At.store rfl rfl rfl rfl .z rfl rfl rfl (.s (.s (.c .n))) ?_; refine At.nil ?_; refine At.ibn ?_; refine At.thn ?_; exact fun a w e hs => a3 (IntKind.u64.wrap ((Bw.shl .u64 1 (IntKind.u64.wrap 64)) - 1)) j a w (e.sub ⟨rfl, rfl, rfl, rfl, trivial⟩) hs
       ··refine At.condF rfl (decide_eq_false U) ?_
         refine At.skip (At.thn (At.region (At.run 3 rfl ?_))); obtain ⟨c8, j⟩ := bnone j; refine At.y (Y.shl rfl rfl c8) rfl rfl rfl (At.run 1 rfl (At.y (Y.ixArrK rfl rfl rfl rfl rfl (show (0 : Int) ≤ 2 ∧ (2 : Int) < 4 by decide).1 (show (0 : Int) ≤ 2 ∧ (2 : Int) < 4 by decide).2 (q := 2) (off := 2) rfl rfl) rfl rfl rfl ?_)); refine At.store rfl rfl rfl rfl .z rfl rfl rfl (.s (.s (.c .n))) ?_; refine At.nil ?_; refine At.ibn ?_; refine At.thn ?_; exact fun a w e hs => a3 (IntKind.u64.wrap ((Bw.shl .u64 1 (IntKind.u64.wrap (if 64 < (if IntKind.i64.wrap ((if a0 < 0 then 0 else a0) - 128) < 0 then 0 else IntKind.i64.wrap ((if a0 < 0 then 0 else a0) - 128)) then 64 else (if IntKind.i64.wrap ((if a0 < 0 then 0 else a0) - 128) < 0 then 0 else IntKind.i64.wrap ((if a0 < 0 then 0 else a0) - 128))))) - 1)) j a w (e.sub ⟨rfl, rfl, rfl, rfl, trivial⟩) hs
   ··refine At.block ?_
     refine sR 2 rfl (nT (sR 7 rfl ?_)); refine nT (At.seq (sR 2 rfl (nT ?_))); rcases bite j with ⟨V, j⟩ | ⟨V, j⟩
     ··refine At.condT rfl (decide_eq_true V) ?_
       refine At.region (At.run 1 rfl (nT (At.region (At.run 3 rfl ?_)))); obtain ⟨c9, j⟩ := bnone j; refine At.y (Y.shl rfl rfl c9) rfl rfl rfl (At.run 1 rfl (At.y (Y.ixArrK rfl rfl rfl rfl rfl (show (0 : Int) ≤ 1 ∧ (1 : Int) < 4 by decide).1 (show (0 : Int) ≤ 1 ∧ (1 : Int) < 4 by decide).2 (q := 1) (off := 1) rfl rfl) rfl rfl rfl ?_)); refine At.store rfl rfl rfl rfl .z rfl rfl rfl (.s (.c .n)) ?_; refine At.nil ?_; refine At.ibn ?_; refine At.thn ?_; exact fun a w e hs => a2 (IntKind.u64.wrap ((Bw.shl .u64 1 (IntKind.u64.wrap 64)) - 1)) j a w (e.sub ⟨rfl, rfl, rfl, rfl, trivial⟩) hs
     ··refine At.condF rfl (decide_eq_false V) ?_
       refine At.skip (At.thn (At.region (At.run 3 rfl ?_))); obtain ⟨d0, j⟩ := bnone j; refine At.y (Y.shl rfl rfl d0) rfl rfl rfl (At.run 1 rfl (At.y (Y.ixArrK rfl rfl rfl rfl rfl (show (0 : Int) ≤ 1 ∧ (1 : Int) < 4 by decide).1 (show (0 : Int) ≤ 1 ∧ (1 : Int) < 4 by decide).2 (q := 1) (off := 1) rfl rfl) rfl rfl rfl ?_)); refine At.store rfl rfl rfl rfl .z rfl rfl rfl (.s (.c .n)) ?_; refine At.nil ?_; refine At.ibn ?_; refine At.thn ?_; exact fun a w e hs => a2 (IntKind.u64.wrap ((Bw.shl .u64 1 (IntKind.u64.wrap (if 64 < (if IntKind.i64.wrap ((if a0 < 0 then 0 else a0) - 64) < 0 then 0 else IntKind.i64.wrap ((if a0 < 0 then 0 else a0) - 64)) then 64 else (if IntKind.i64.wrap ((if a0 < 0 then 0 else a0) - 64) < 0 then 0 else IntKind.i64.wrap ((if a0 < 0 then 0 else a0) - 64))))) - 1)) j a w (e.sub ⟨rfl, rfl, rfl, rfl, trivial⟩) hs
 ··refine At.block ?_
   refine sR 2 rfl (nT (sR 7 rfl ?_)); refine nT (At.seq (sR 2 rfl (nT ?_))); rcases bite j with ⟨Z, j⟩ | ⟨Z, j⟩
   ··refine At.condT rfl (decide_eq_true Z) ?_
     refine At.region (At.run 1 rfl (nT (At.region (At.run 3 rfl ?_)))); obtain ⟨d1, j⟩ := bnone j; refine At.y (Y.shl rfl rfl d1) rfl rfl rfl (At.run 1 rfl (At.y (Y.ixArrK rfl rfl rfl rfl rfl (show (0 : Int) ≤ 0 ∧ (0 : Int) < 4 by decide).1 (show (0 : Int) ≤ 0 ∧ (0 : Int) < 4 by decide).2 (q := 0) (off := 0) rfl rfl) rfl rfl rfl ?_)); refine At.store rfl rfl rfl rfl .z rfl rfl rfl (.c .n) ?_; refine At.nil ?_; refine At.ibn ?_; refine At.thn ?_; exact fun a w e hs => a1 (IntKind.u64.wrap ((Bw.shl .u64 1 (IntKind.u64.wrap 64)) - 1)) j a w (e.sub ⟨rfl, rfl, rfl, rfl, trivial⟩) hs
   ··refine At.condF rfl (decide_eq_false Z) ?_
     refine At.skip (At.thn (At.region (At.run 3 rfl ?_))); obtain ⟨d2, j⟩ := bnone j; refine At.y (Y.shl rfl rfl d2) rfl rfl rfl (At.run 1 rfl (At.y (Y.ixArrK rfl rfl rfl rfl rfl (show (0 : Int) ≤ 0 ∧ (0 : Int) < 4 by decide).1 (show (0 : Int) ≤ 0 ∧ (0 : Int) < 4 by decide).2 (q := 0) (off := 0) rfl rfl) rfl rfl rfl ?_)); refine At.store rfl rfl rfl rfl .z rfl rfl rfl (.c .n) ?_; refine At.nil ?_; refine At.ibn ?_; refine At.thn ?_; exact fun a w e hs => a1 (IntKind.u64.wrap ((Bw.shl .u64 1 (IntKind.u64.wrap (if 64 < (if IntKind.i64.wrap ((if a0 < 0 then 0 else a0) - 0) < 0 then 0 else IntKind.i64.wrap ((if a0 < 0 then 0 else a0) - 0)) then 64 else (if IntKind.i64.wrap ((if a0 < 0 then 0 else a0) - 0) < 0 then 0 else IntKind.i64.wrap ((if a0 < 0 then 0 else a0) - 0))))) - 1)) j a w (e.sub ⟨rfl, rfl, rfl, rfl, trivial⟩) hs

noncomputable def Q52.l0b (u q : List Q9) (p : Int) : Option (((List Q9) × Int) ⊕ (((List Q9)) ⊕ (Unit ⊕ ((List Int) × Int × Int × Int × Int)))) :=
 if p < (u.length : Int) then
 jn (
 if (0 : Int) ≤ p ∧ p < (u.length : Int) then
 if (gt q p).Kind = 12 then
 some (.inl (st q p ({ gt q p with Kind := 3 })))
 else
 some (.inl q)
 else none) (fun (D : List Q9) =>
 nx (D, IntKind.i64.wrap (p + 1)))
 else
 dn (.inl q)
noncomputable def Q52.l0 (p q : List Q9) (u : Int) : Option (((List Q9)) ⊕ (Unit ⊕ ((List Int) × Int × Int × Int × Int))) := iter (fun t_ : (List Q9) × Int => Q52.l0b p t_.1 t_.2) (q, u)
noncomputable def Q52.f (D : Int) (G : List (Bs × Q0)) (I : List (Q7 × Q0)) (a1 : List Q9) : Option (Unit ⊕ ((List Int) × Int × Int × Int × Int)) :=
 (Q118.f a1).bind fun q =>
 jn (Q52.l0 q q 0) (fun (u : List Q9) =>
 (Q50.f u).bind fun J =>
 if J.1 = 0 then
 (Q103.f u).bind fun L =>
 (Q98.f D G I).bind fun O =>
 (Q81.f O).bind fun p =>
 if (0 : Int) ≤ (a1.length : Int) ∧ (32 : Int) * (a1.length : Int) ≤ 281474976710656 then
 some (.inr (L, p.1, p.2.1, p.2.2.1, p.2.2.2))
 else none
 else
 some (.inl ()))
theorem Q52.callee : Callee Tryz.prog 78 := ⟨_, Tryz.func78, by kernel_rfl, by kernel_rfl⟩
theorem Q52.spec {a2 : Int} {a3 : List (Bs × Q0)} {a4 : List (Q7 × Q0)} {a1 : List Q9} (hr1 : RdS Q9.fl.rep R.heap A1 a1) (hn1 : a1.length = n1) (hc1 : n1 ≤ c1) {r : Unit ⊕ ((List Int) × Int × Int × Int × Int)} (j : Q52.f a2 a3 a4 a1 = some r) :
 Spec Tryz.prog 78 [bp b0, .slice A1 n1 c1] R (pc b0 [i6 a2, .map (some b0_1), .map (some b0_2)] 91 :: mapo Fl.bs.ov Q0.fl.av b0_1 a3 :: mapo Q7.fl.av Q0.fl.av b0_2 a4 :: Fr) (fun v l' => match r with
 | .inl r => v = .tuple #[.pointer none, i6 1] ∧ pc b0 [i6 a2, .map (some b0_1), .map (some b0_2)] 91 :: mapo Fl.bs.ov Q0.fl.av b0_1 a3 :: mapo Q7.fl.av Q0.fl.av b0_2 a4 :: Fr = l'
 | .inr r => ∃ (e6 : Nat) (e7 : Option Addr) (e8 : Nat) (d4 : Nat) (e9 : Option Addr) (f0 : Nat), v = .tuple #[bp e6, i6 0] ∧ pc e6 [bp b0, .slice A1 n1 c1, .slice e9 d4 f0, .int .u64 r.2.1, .int .u64 r.2.2.1, .int .u64 r.2.2.2.1, .int .u64 r.2.2.2.2, .slice e7 ((List.replicate (n1 : Int).toNat ((⟨0, 0, 0, 0⟩ : Q0) : Q0)).length) e8] 177 :: row (Fl.int .i64) 3 e9 d4 f0 r.1 :: row Q0.fl 43 e7 ((List.replicate (n1 : Int).toNat ((⟨0, 0, 0, 0⟩ : Q0) : Q0)).length) e8 (List.replicate (n1 : Int).toNat ((⟨0, 0, 0, 0⟩ : Q0) : Q0)) :: pc b0 [i6 a2, .map (some b0_1), .map (some b0_2)] 91 :: mapo Fl.bs.ov Q0.fl.av b0_1 a3 :: mapo Q7.fl.av Q0.fl.av b0_2 a4 :: Fr = l' ∧ r.1.length = d4) := by
 subst hn1; refine Spec.of Tryz.func78 rfl rfl ?_; unfold Q52.f at j; have j := brun j; refine sR 2 rfl (nT (sR 1 rfl ?_)); obtain ⟨J, f7, j⟩ := bbind j; refine At.call rfl Q118.callee rfl rfl rfl (Q118.spec hr1 rfl hc1 f7) ?_; rintro _ _ ⟨O, U, rfl, rfl⟩; refine At.run 1 rfl (nT (At.seq (sR 3 rfl (At.nil ?_)))); refine At.thn ?_; refine At.block ?_; obtain ⟨f8, f9, h6, j⟩ := bjoin j; obtain ⟨d5, d6, g0⟩ := bsome j; clear j; unfold Q52.l0 at d6; obtain ⟨d7, a5⟩ := Q16.1 d6; clear d6; let a6 : HProp := pc b0 [i6 a2, .map (some b0_1), .map (some b0_2)] 91; let a7 : HProp := mapo Fl.bs.ov Q0.fl.av b0_1 a3; let a8 : HProp := mapo Q7.fl.av Q0.fl.av b0_2 a4; refine At.loopJ (X := (List Q9) × Int) (Y := (List Q9)) (e0 := 0) (fun s_ => [(0, bp b0), (1, .slice A1 a1.length c1), (6, .slice O J.length U), (13, i6 (J.length : Int)), (14, i6 s_.2)]) (fun s_ => row Q9.fl 171 O J.length U s_.1 :: a6 :: a7 :: a8 :: Fr) (fun m_ => fun s_ => iterN (fun t_ : (List Q9) × Int => Q52.l0b J t_.1 t_.2) m_ (s_.1, s_.2) = some d5) d7 (J, 0) a5 (fun a9 => [(0, bp b0), (1, .slice A1 a1.length c1), (6, .slice O J.length U)]) (fun a9 => row Q9.fl 171 O J.length U a9 :: a6 :: a7 :: a8 :: Fr) (fun a9 => f8 (.inl a9) = some r) (fun a w e hs => ⟨e.sub ⟨rfl, rfl, rfl, rfl, rfl, trivial⟩, (by exact hs)⟩) ?_ (fun g1 => ?_)
 ·rintro a9 j; have j := (f9 _).symm.trans j
  ·refine At.ibx ?_; refine At.thn (At.seq (sR 1 rfl ?_)); refine At.freeze .z fun h7 d8 d9 e1 h8 f1 => ?_; obtain ⟨h9, g2, j⟩ := bbind j; refine At.call rfl Q50.callee rfl rfl rfl (Q50.spec d8 d9 e1 g2) ?_; rintro _ _ ⟨rfl, rfl⟩; refine At.run 5 rfl (nT (sR 2 rfl (nT ?_))); rcases bite j with ⟨e2, j⟩ | ⟨e2, j⟩
   ··refine At.condF rfl (nf (decide_eq_true e2)) ?_
     refine At.skip (At.thn (At.seq ?_)); refine At.held [a6, a7, a8] 14 rfl ?_; refine At.H.pw 0 rfl rfl rfl rfl rfl (.c .z (.c .z (.c .z .n))) ?_; refine At.H.pw 1 rfl rfl rfl rfl rfl (.c .z (.c .z (.c .z .n))) ?_; refine At.H.pw 2 rfl rfl rfl rfl rfl (.c .z (.c .z (.c .z .n))) ?_; refine At.H.pw 4 rfl rfl rfl rfl rfl (.c .z (.c .z (.c .z .n))) ?_; refine At.H.pw 7 rfl rfl rfl rfl rfl (.c .z (.c .z (.c .z .n))) ?_; refine At.H.pw 8 rfl rfl rfl rfl rfl (.c .z (.c .z (.c .z .n))) ?_; obtain ⟨u, f2, j⟩ := bbind j; obtain ⟨k0, e3, j⟩ := bbind j; obtain ⟨p, b4, j⟩ := bbind j; obtain ⟨L, j⟩ := bnone j; refine At.H.joinK (X := Nat × (Option Addr) × Nat × (Option Addr) × Nat) (fun s_ => [(4, .pointer (some ⟨s_.1, 0, none⟩)), (5, i6 0)]) (fun s_ => pt s_.1 (.cells [bp b0, .slice A1 a1.length c1, .slice s_.2.2.2.1 u.length s_.2.2.2.2, .int .u64 p.1, .int .u64 p.2.1, .int .u64 p.2.2.1, .int .u64 p.2.2.2, .slice s_.2.1 ((List.replicate (a1.length : Int).toNat ((⟨0, 0, 0, 0⟩ : Q0) : Q0)).length) s_.2.2.1].toArray 177) :: row Q0.fl 43 s_.2.1 ((List.replicate (a1.length : Int).toNat ((⟨0, 0, 0, 0⟩ : Q0) : Q0)).length) s_.2.2.1 (List.replicate (a1.length : Int).toNat ((⟨0, 0, 0, 0⟩ : Q0) : Q0)) :: a6 :: a7 :: a8 :: row (Fl.int .i64) 3 s_.2.2.2.1 u.length s_.2.2.2.2 u :: Fr) (fun s_ => True) ?_ (fun b5 => ?_)
     ·rintro ⟨g3, g4, g5, g6, g7⟩ -
      ·refine At.thn (At.ret ?_); refine At.thaw f1 ?_; refine At.drop .z (At.f4 (At.f4 (At.f4 (At.f4 (At.f5 (At.f5 ?_)))))); cases bret j; exact At.res (.inl rfl) rfl rfl ⟨g3, g4, g5, u.length, g6, g7, rfl, rfl, rfl⟩
     ·refine At.H.al [3, 9] (Q4 ?_ (Q4 ?_ Q6))
      ··refine At.HO.op rfl ?_
        refine At.call rfl Q103.callee rfl rfl rfl (Q103.spec d8 d9 e1 f2) ?_; rintro _ _ ⟨k1, D, G, rfl, rfl, rfl⟩; refine At.HO.back (.c (.s .z) (.c (.s .z) (.c (.s .z) .n))) ?_; refine At.H.al [5, 9] (Q4 ?_ (Q4 ?_ Q6))
        ··refine At.HO.op rfl ?_
          refine At.f3 (At.f3 (At.f3 ?_)); refine At.call rfl Q98.callee rfl rfl rfl (Q98.spec e3) ?_; rintro _ _ ⟨rfl, rfl⟩; refine At.HO.back (.c .z (.c .z (.c .z .n))) ?_; refine At.H.al [6, 9] (Q4 ?_ (Q4 ?_ Q6))
          ··refine At.HO.op rfl ?_
            refine At.call rfl Q81.callee rfl rfl rfl (Q81.spec b4) ?_; rintro _ _ ⟨rfl, rfl⟩; refine At.HO.back (.c .z (.c .z (.c .z .n))) ?_; refine At.H.al [9] (Q4 ?_ Q6)
            ··refine At.HO.op rfl ?_
              refine At.makeW (F := Q0.fl) (z := (⟨0, 0, 0, 0⟩ : Q0)) rfl rfl rfl rfl rfl rfl rfl rfl rfl L.1 L.2 (by decide) rfl (fun b6 b7 => ?_); refine At.HO.back (.c (.s .z) (.c (.s .z) (.c (.s .z) .n))) ?_; refine At.H.tw 10 rfl (Y.build (is := [0, 1, 2, 3, 4]) (xo := [.tmp 35, .tmp 36, .tmp 38, .tmp 41, .tmp 44]) (vs := [bp b0, .slice A1 a1.length c1, .slice D u.length G, .agg #[.int .u64 p.1, .int .u64 p.2.1, .int .u64 p.2.2.1, .int .u64 p.2.2.2], .slice b6 ((List.replicate (a1.length : Int).toNat ((⟨0, 0, 0, 0⟩ : Q0) : Q0)).length) b7]) (cs := [bp b0, .slice A1 a1.length c1, .slice D u.length G, .int .u64 p.1, .int .u64 p.2.1, .int .u64 p.2.2.1, .int .u64 p.2.2.2, .slice b6 ((List.replicate (a1.length : Int).toNat ((⟨0, 0, 0, 0⟩ : Q0) : Q0)).length) b7]) rfl rfl rfl rfl rfl (by kernel_rfl)) rfl rfl rfl (.c (.s .z) (.c (.s .z) (.c (.s .z) .n))) ?_; refine At.H.al [11] (Q4 ?_ Q6)
              ··refine At.HO.op rfl ?_
                refine At.box rfl rfl (cs := [bp b0, .slice A1 a1.length c1, .slice D u.length G, .int .u64 p.1, .int .u64 p.2.1, .int .u64 p.2.2.1, .int .u64 p.2.2.2, .slice b6 ((List.replicate (a1.length : Int).toNat ((⟨0, 0, 0, 0⟩ : Q0) : Q0)).length) b7]) rfl rfl (fun g8 => ?_); refine At.HO.back (.c (.s (.s .z)) (.c (.s (.s .z)) (.c (.s (.s .z)) .n))) ?_; refine At.H.pw 12 rfl rfl rfl rfl rfl (.c (.s (.s .z)) (.c (.s (.s .z)) (.c (.s (.s .z)) .n))) ?_; refine At.H.pw 13 rfl rfl rfl rfl rfl (.c (.s (.s .z)) (.c (.s (.s .z)) (.c (.s (.s .z)) .n))) ?_; refine At.H.done (by kernel_rfl) ?_; exact At.of (b5 (g8, b6, b7, D, G) trivial) ⟨rfl, rfl, trivial⟩
          ··refine At.HO.op rfl ?_
            refine At.makeW (F := Q0.fl) (z := (⟨0, 0, 0, 0⟩ : Q0)) rfl rfl rfl rfl rfl rfl rfl rfl rfl L.1 L.2 (by decide) rfl (fun b8 b9 => ?_); refine At.HO.back (.c (.s .z) (.c (.s .z) (.c (.s .z) .n))) ?_; refine At.H.al [6] (Q4 ?_ Q6)
            ··refine At.HO.op rfl ?_
              refine At.call rfl Q81.callee rfl rfl rfl (Q81.spec b4) ?_; rintro _ _ ⟨rfl, rfl⟩; refine At.HO.back (.c (.s .z) (.c (.s .z) (.c (.s .z) .n))) ?_; refine At.H.tw 10 rfl (Y.build (is := [0, 1, 2, 3, 4]) (xo := [.tmp 35, .tmp 36, .tmp 38, .tmp 41, .tmp 44]) (vs := [bp b0, .slice A1 a1.length c1, .slice D u.length G, .agg #[.int .u64 p.1, .int .u64 p.2.1, .int .u64 p.2.2.1, .int .u64 p.2.2.2], .slice b8 ((List.replicate (a1.length : Int).toNat ((⟨0, 0, 0, 0⟩ : Q0) : Q0)).length) b9]) (cs := [bp b0, .slice A1 a1.length c1, .slice D u.length G, .int .u64 p.1, .int .u64 p.2.1, .int .u64 p.2.2.1, .int .u64 p.2.2.2, .slice b8 ((List.replicate (a1.length : Int).toNat ((⟨0, 0, 0, 0⟩ : Q0) : Q0)).length) b9]) rfl rfl rfl rfl rfl (by kernel_rfl)) rfl rfl rfl (.c (.s .z) (.c (.s .z) (.c (.s .z) .n))) ?_; refine At.H.al [11] (Q4 ?_ Q6)
              ··refine At.HO.op rfl ?_
                refine At.box rfl rfl (cs := [bp b0, .slice A1 a1.length c1, .slice D u.length G, .int .u64 p.1, .int .u64 p.2.1, .int .u64 p.2.2.1, .int .u64 p.2.2.2, .slice b8 ((List.replicate (a1.length : Int).toNat ((⟨0, 0, 0, 0⟩ : Q0) : Q0)).length) b9]) rfl rfl (fun g9 => ?_); refine At.HO.back (.c (.s (.s .z)) (.c (.s (.s .z)) (.c (.s (.s .z)) .n))) ?_; refine At.H.pw 12 rfl rfl rfl rfl rfl (.c (.s (.s .z)) (.c (.s (.s .z)) (.c (.s (.s .z)) .n))) ?_; refine At.H.pw 13 rfl rfl rfl rfl rfl (.c (.s (.s .z)) (.c (.s (.s .z)) (.c (.s (.s .z)) .n))) ?_; refine At.H.done (by kernel_rfl) ?_; exact At.of (b5 (g9, b8, b9, D, G) trivial) ⟨rfl, rfl, trivial⟩
        ··refine At.HO.op rfl ?_
          refine At.makeW (F := Q0.fl) (z := (⟨0, 0, 0, 0⟩ : Q0)) rfl rfl rfl rfl rfl rfl rfl rfl rfl L.1 L.2 (by decide) rfl (fun c8 c9 => ?_); refine At.HO.back (.c (.s (.s .z)) (.c (.s (.s .z)) (.c (.s (.s .z)) .n))) ?_; refine At.H.al [5] (Q4 ?_ Q6)
          ··refine At.HO.op rfl ?_
            refine At.f4 (At.f4 (At.f4 ?_)); refine At.call rfl Q98.callee rfl rfl rfl (Q98.spec e3) ?_; rintro _ _ ⟨rfl, rfl⟩; refine At.HO.back (.c .z (.c .z (.c .z .n))) ?_; refine At.H.al [6] (Q4 ?_ Q6)
            ··refine At.HO.op rfl ?_
              refine At.call rfl Q81.callee rfl rfl rfl (Q81.spec b4) ?_; rintro _ _ ⟨rfl, rfl⟩; refine At.HO.back (.c .z (.c .z (.c .z .n))) ?_; refine At.H.tw 10 rfl (Y.build (is := [0, 1, 2, 3, 4]) (xo := [.tmp 35, .tmp 36, .tmp 38, .tmp 41, .tmp 44]) (vs := [bp b0, .slice A1 a1.length c1, .slice D u.length G, .agg #[.int .u64 p.1, .int .u64 p.2.1, .int .u64 p.2.2.1, .int .u64 p.2.2.2], .slice c8 ((List.replicate (a1.length : Int).toNat ((⟨0, 0, 0, 0⟩ : Q0) : Q0)).length) c9]) (cs := [bp b0, .slice A1 a1.length c1, .slice D u.length G, .int .u64 p.1, .int .u64 p.2.1, .int .u64 p.2.2.1, .int .u64 p.2.2.2, .slice c8 ((List.replicate (a1.length : Int).toNat ((⟨0, 0, 0, 0⟩ : Q0) : Q0)).length) c9]) rfl rfl rfl rfl rfl (by kernel_rfl)) rfl rfl rfl (.c .z (.c .z (.c .z .n))) ?_; refine At.H.al [11] (Q4 ?_ Q6)
              ··refine At.HO.op rfl ?_
                refine At.box rfl rfl (cs := [bp b0, .slice A1 a1.length c1, .slice D u.length G, .int .u64 p.1, .int .u64 p.2.1, .int .u64 p.2.2.1, .int .u64 p.2.2.2, .slice c8 ((List.replicate (a1.length : Int).toNat ((⟨0, 0, 0, 0⟩ : Q0) : Q0)).length) c9]) rfl rfl (fun h0 => ?_); refine At.HO.back (.c (.s .z) (.c (.s .z) (.c (.s .z) .n))) ?_; refine At.H.pw 12 rfl rfl rfl rfl rfl (.c (.s .z) (.c (.s .z) (.c (.s .z) .n))) ?_; refine At.H.pw 13 rfl rfl rfl rfl rfl (.c (.s .z) (.c (.s .z) (.c (.s .z) .n))) ?_; refine At.H.done (by kernel_rfl) ?_; refine At.f5 (At.f4 (At.f4 (At.f4 (At.f5 (At.f5 ?_))))); exact At.of (b5 (h0, c8, c9, D, G) trivial) ⟨rfl, rfl, trivial⟩
      ··refine At.HO.op rfl ?_
        refine At.makeW (F := Q0.fl) (z := (⟨0, 0, 0, 0⟩ : Q0)) rfl rfl rfl rfl rfl rfl rfl rfl rfl L.1 L.2 (by decide) rfl (fun d0 d1 => ?_); refine At.HO.back (.c (.s .z) (.c (.s .z) (.c (.s .z) .n))) ?_; refine At.H.al [3] (Q4 ?_ Q6)
        ··refine At.HO.op rfl ?_
          refine At.call rfl Q103.callee rfl rfl rfl (Q103.spec d8 d9 e1 f2) ?_; rintro _ _ ⟨k2, d2, d3, rfl, rfl, rfl⟩; refine At.HO.back (.c (.s (.s .z)) (.c (.s (.s .z)) (.c (.s (.s .z)) .n))) ?_; refine At.H.al [5] (Q4 ?_ Q6)
          ··refine At.HO.op rfl ?_
            refine At.f4 (At.f4 (At.f4 ?_)); refine At.call rfl Q98.callee rfl rfl rfl (Q98.spec e3) ?_; rintro _ _ ⟨rfl, rfl⟩; refine At.HO.back (.c .z (.c .z (.c .z .n))) ?_; refine At.H.al [6] (Q4 ?_ Q6)
            ··refine At.HO.op rfl ?_
              refine At.call rfl Q81.callee rfl rfl rfl (Q81.spec b4) ?_; rintro _ _ ⟨rfl, rfl⟩; refine At.HO.back (.c .z (.c .z (.c .z .n))) ?_; refine At.H.tw 10 rfl (Y.build (is := [0, 1, 2, 3, 4]) (xo := [.tmp 35, .tmp 36, .tmp 38, .tmp 41, .tmp 44]) (vs := [bp b0, .slice A1 a1.length c1, .slice d2 u.length d3, .agg #[.int .u64 p.1, .int .u64 p.2.1, .int .u64 p.2.2.1, .int .u64 p.2.2.2], .slice d0 ((List.replicate (a1.length : Int).toNat ((⟨0, 0, 0, 0⟩ : Q0) : Q0)).length) d1]) (cs := [bp b0, .slice A1 a1.length c1, .slice d2 u.length d3, .int .u64 p.1, .int .u64 p.2.1, .int .u64 p.2.2.1, .int .u64 p.2.2.2, .slice d0 ((List.replicate (a1.length : Int).toNat ((⟨0, 0, 0, 0⟩ : Q0) : Q0)).length) d1]) rfl rfl rfl rfl rfl (by kernel_rfl)) rfl rfl rfl (.c .z (.c .z (.c .z .n))) ?_; refine At.H.al [11] (Q4 ?_ Q6)
              ··refine At.HO.op rfl ?_
                refine At.box rfl rfl (cs := [bp b0, .slice A1 a1.length c1, .slice d2 u.length d3, .int .u64 p.1, .int .u64 p.2.1, .int .u64 p.2.2.1, .int .u64 p.2.2.2, .slice d0 ((List.replicate (a1.length : Int).toNat ((⟨0, 0, 0, 0⟩ : Q0) : Q0)).length) d1]) rfl rfl (fun h1 => ?_); refine At.HO.back (.c (.s .z) (.c (.s .z) (.c (.s .z) .n))) ?_; refine At.H.pw 12 rfl rfl rfl rfl rfl (.c (.s .z) (.c (.s .z) (.c (.s .z) .n))) ?_; refine At.H.pw 13 rfl rfl rfl rfl rfl (.c (.s .z) (.c (.s .z) (.c (.s .z) .n))) ?_; refine At.H.done (by kernel_rfl) ?_; refine At.f4 (At.f4 (At.f4 (At.f4 (At.f5 (At.f5 ?_))))); exact At.of (b5 (h1, d0, d1, d2, d3) trivial) ⟨rfl, rfl, trivial⟩
   ··refine At.condT rfl (nt (decide_eq_false e2)) ?_
     refine sR 2 rfl (nT (At.ret (At.thr ?_))); refine At.thaw f1 ?_; refine At.drop .z ?_; cases bret j; exact At.res (.inl rfl) rfl rfl ⟨rfl, rfl⟩
 ·clear a5 d7; rintro d7 ⟨V, Z⟩ a5; obtain ⟨h2, f_, h3, hf_, j⟩ := bit a5; clear a5; have j : (Q52.l0b J V Z).bind _ = some d5 := j; unfold Q52.l0b at j
  ·refine sR 1 rfl (nT (At.seq ?_)); rcases bite j with ⟨e4, j⟩ | ⟨e4, j⟩
   ··refine At.condT rfl (decide_eq_true e4) ?_
     refine At.skip (At.thn (At.seq ?_)); obtain ⟨h4, h5, k3, j⟩ := bjoin j; refine At.join (X := (List Q9)) (fun a0 => [(0, bp b0), (1, .slice A1 a1.length c1), (6, .slice O J.length U), (13, i6 (J.length : Int)), (14, i6 Z)]) (fun a0 => row Q9.fl 171 O J.length U a0 :: a6 :: a7 :: a8 :: Fr) (fun a0 => h4 (.inl a0) = some d5) ?_ (fun f6 => ?_)
     ·rintro a0 j; have j := (h5 _).symm.trans j
      ·refine At.region (At.run 2 rfl (At.nil ?_)); have j := bnx hf_ j; exact fun a w e hs => ⟨h2, (a0, IntKind.i64.wrap (Z + 1)), h3, j, e.sub ⟨rfl, rfl, rfl, rfl, rfl, trivial⟩, hs⟩
     ··refine At.block ?_
       refine sR 2 rfl (nT (sR 2 rfl ?_)); obtain ⟨I, j⟩ := bnone j; refine At.y (Y.ix .z rfl rfl rfl rfl rfl rfl I.1 I.2) rfl rfl rfl ?_; refine At.y (Y.faOwn .z I.1 I.2 rfl rfl rfl rfl rfl rfl) rfl rfl rfl ?_; refine At.y (Y.ld .z (q := 0) rfl rfl I.1 I.2 rfl rfl rfl) rfl rfl rfl (At.run 1 rfl (nT ?_)); rcases bite j with ⟨e5, j⟩ | ⟨e5, j⟩
       ··refine At.condT rfl (decide_eq_true e5) ?_
         refine At.region (At.run 2 rfl (At.y (Y.ix .z rfl rfl rfl rfl rfl rfl I.1 I.2) rfl rfl rfl ?_)); refine At.y (Y.faOwn .z I.1 I.2 rfl rfl rfl rfl rfl rfl) rfl rfl rfl ?_; refine At.st rfl .z (q := 0) (z := { gt V Z with Kind := 3 }) rfl rfl rfl I.1 I.2 rfl rfl (.c .n) ?_; refine At.nil ?_; refine At.ibn ?_; refine At.thn ?_; exact fun a w e hs => f6 (st V Z ({ gt V Z with Kind := 3 })) j a w (e.sub ⟨rfl, rfl, rfl, rfl, rfl, trivial⟩) hs
       ··refine At.condF rfl (decide_eq_false e5) ?_
         refine At.skip ?_; refine At.ibn ?_; refine At.thn ?_; exact fun a w e hs => f6 V j a w (e.sub ⟨rfl, rfl, rfl, rfl, rfl, trivial⟩) hs
   ··refine At.condF rfl (decide_eq_false e4) ?_
     refine At.exit ?_; refine At.the ?_; refine At.the ?_; exact fun a w e hs => g1 V (bdn j g0) a w (e.sub ⟨rfl, rfl, rfl, trivial⟩) hs

noncomputable def Q128.f (p q u D G I J L : Int) : Option (Int × Int × Int × Int) :=
 some (bandnot .u64 p G, bandnot .u64 q I, bandnot .u64 u J, bandnot .u64 D L)
theorem Q128.callee : Callee Tryz.prog 156 := ⟨_, Tryz.func156, by kernel_rfl, by kernel_rfl⟩
theorem Q128.spec {p u D G I J L O : Int} {r : Int × Int × Int × Int} (j : Q128.f p u D G I J L O = some r) :
 Spec Tryz.prog 156 [.agg #[.int .u64 p, .int .u64 u, .int .u64 D, .int .u64 G], .agg #[.int .u64 I, .int .u64 J, .int .u64 L, .int .u64 O]] R (Fr) (fun v l' => v = .agg #[.int .u64 r.1, .int .u64 r.2.1, .int .u64 r.2.2.1, .int .u64 r.2.2.2] ∧ Fr = l') := by
 refine Spec.of Tryz.func156 rfl rfl ?_; unfold Q128.f at j; have j := brun j; refine At.seq (At.region ?_); refine At.box rfl rfl (cs := [.int .u64 p, .int .u64 u, .int .u64 D, .int .u64 G]) rfl rfl (fun U => ?_); refine At.box rfl rfl (cs := [.int .u64 I, .int .u64 J, .int .u64 L, .int .u64 O]) rfl rfl (fun V => ?_); refine At.alloc rfl rfl rfl (fun X => ?_); refine nT (At.seq (sR 1 rfl (nT ?_))); refine At.block ?_; refine At.rounds 5 ?_; refine At.round ?_; refine sR 1 rfl (nT (At.seq ?_)); refine At.condT rfl rfl ?_; refine At.skip (At.thn (At.seq ?_)); refine At.block ?_; refine sR 2 rfl (nT ?_); refine At.still 8 (by kernel_rfl) ?_; refine At.Still.run 1 rfl ?_; refine At.Still.y (Y.ixArrK rfl rfl rfl rfl rfl (show (0 : Int) ≤ 0 ∧ (0 : Int) < 4 by decide).1 (show (0 : Int) ≤ 0 ∧ (0 : Int) < 4 by decide).2 (q := 0) (off := 0) rfl rfl) rfl rfl rfl ?_; refine At.Still.y (Y.load rfl rfl (.s (.s .z)) rfl rfl rfl) rfl rfl rfl ?_; refine At.Still.run 1 rfl ?_; refine At.Still.y (Y.ixArrK rfl rfl rfl rfl rfl (show (0 : Int) ≤ 0 ∧ (0 : Int) < 4 by decide).1 (show (0 : Int) ≤ 0 ∧ (0 : Int) < 4 by decide).2 (q := 0) (off := 0) rfl rfl) rfl rfl rfl ?_; refine At.Still.y (Y.load rfl rfl (.s .z) rfl rfl rfl) rfl rfl rfl ?_; refine At.Still.run 1 rfl ?_; refine At.Still.y (Y.ixArrK rfl rfl rfl rfl rfl (show (0 : Int) ≤ 0 ∧ (0 : Int) < 4 by decide).1 (show (0 : Int) ≤ 0 ∧ (0 : Int) < 4 by decide).2 (q := 0) (off := 0) rfl rfl) rfl rfl rfl ?_; refine At.Still.nil ?_; refine At.store rfl rfl rfl rfl (.s (.s .z)) rfl rfl rfl (.c .n) ?_; refine At.nil ?_; refine At.ibn ?_; refine At.thn (At.region (At.run 2 rfl (nT ?_))); refine At.round ?_; refine sR 1 rfl (nT (At.seq ?_)); refine At.condT rfl rfl ?_; refine At.skip (At.thn (At.seq ?_)); refine At.block ?_; refine sR 2 rfl (nT ?_); refine At.still 8 (by kernel_rfl) ?_; refine At.Still.run 1 rfl ?_; refine At.Still.y (Y.ixArrK rfl rfl rfl rfl rfl (show (0 : Int) ≤ 1 ∧ (1 : Int) < 4 by decide).1 (show (0 : Int) ≤ 1 ∧ (1 : Int) < 4 by decide).2 (q := 1) (off := 1) rfl rfl) rfl rfl rfl ?_; refine At.Still.y (Y.load rfl rfl .z rfl rfl rfl) rfl rfl rfl ?_; refine At.Still.run 1 rfl ?_; refine At.Still.y (Y.ixArrK rfl rfl rfl rfl rfl (show (0 : Int) ≤ 1 ∧ (1 : Int) < 4 by decide).1 (show (0 : Int) ≤ 1 ∧ (1 : Int) < 4 by decide).2 (q := 1) (off := 1) rfl rfl) rfl rfl rfl ?_; refine At.Still.y (Y.load rfl rfl (.s (.s .z)) rfl rfl rfl) rfl rfl rfl ?_; refine At.Still.run 1 rfl ?_; refine At.Still.y (Y.ixArrK rfl rfl rfl rfl rfl (show (0 : Int) ≤ 1 ∧ (1 : Int) < 4 by decide).1 (show (0 : Int) ≤ 1 ∧ (1 : Int) < 4 by decide).2 (q := 1) (off := 1) rfl rfl) rfl rfl rfl ?_; refine At.Still.nil ?_; refine At.store rfl rfl rfl rfl .z rfl rfl rfl (.s (.c .n)) ?_; refine At.nil ?_; refine At.ibn ?_; refine At.thn (At.region (At.run 2 rfl (nT ?_))); refine At.round ?_; refine sR 1 rfl (nT (At.seq ?_)); refine At.condT rfl rfl ?_; refine At.skip (At.thn (At.seq ?_)); refine At.block ?_; refine sR 2 rfl (nT ?_); refine At.still 8 (by kernel_rfl) ?_; refine At.Still.run 1 rfl ?_; refine At.Still.y (Y.ixArrK rfl rfl rfl rfl rfl (show (0 : Int) ≤ 2 ∧ (2 : Int) < 4 by decide).1 (show (0 : Int) ≤ 2 ∧ (2 : Int) < 4 by decide).2 (q := 2) (off := 2) rfl rfl) rfl rfl rfl ?_; refine At.Still.y (Y.load rfl rfl .z rfl rfl rfl) rfl rfl rfl ?_; refine At.Still.run 1 rfl ?_; refine At.Still.y (Y.ixArrK rfl rfl rfl rfl rfl (show (0 : Int) ≤ 2 ∧ (2 : Int) < 4 by decide).1 (show (0 : Int) ≤ 2 ∧ (2 : Int) < 4 by decide).2 (q := 2) (off := 2) rfl rfl) rfl rfl rfl ?_; refine At.Still.y (Y.load rfl rfl (.s (.s .z)) rfl rfl rfl) rfl rfl rfl ?_; refine At.Still.run 1 rfl ?_; refine At.Still.y (Y.ixArrK rfl rfl rfl rfl rfl (show (0 : Int) ≤ 2 ∧ (2 : Int) < 4 by decide).1 (show (0 : Int) ≤ 2 ∧ (2 : Int) < 4 by decide).2 (q := 2) (off := 2) rfl rfl) rfl rfl rfl ?_; refine At.Still.nil ?_; refine At.store rfl rfl rfl rfl .z rfl rfl rfl (.s (.s (.c .n))) ?_; refine At.nil ?_; refine At.ibn ?_; refine At.thn (At.region (At.run 2 rfl (nT ?_))); refine At.round ?_; refine sR 1 rfl (nT (At.seq ?_)); refine At.condT rfl rfl ?_; refine At.skip (At.thn (At.seq ?_)); refine At.block ?_; refine sR 2 rfl (nT ?_); refine At.still 8 (by kernel_rfl) ?_; refine At.Still.run 1 rfl ?_; refine At.Still.y (Y.ixArrK rfl rfl rfl rfl rfl (show (0 : Int) ≤ 3 ∧ (3 : Int) < 4 by decide).1 (show (0 : Int) ≤ 3 ∧ (3 : Int) < 4 by decide).2 (q := 3) (off := 3) rfl rfl) rfl rfl rfl ?_; refine At.Still.y (Y.load rfl rfl .z rfl rfl rfl) rfl rfl rfl ?_; refine At.Still.run 1 rfl ?_; refine At.Still.y (Y.ixArrK rfl rfl rfl rfl rfl (show (0 : Int) ≤ 3 ∧ (3 : Int) < 4 by decide).1 (show (0 : Int) ≤ 3 ∧ (3 : Int) < 4 by decide).2 (q := 3) (off := 3) rfl rfl) rfl rfl rfl ?_; refine At.Still.y (Y.load rfl rfl (.s (.s .z)) rfl rfl rfl) rfl rfl rfl ?_; refine At.Still.run 1 rfl ?_; refine At.Still.y (Y.ixArrK rfl rfl rfl rfl rfl (show (0 : Int) ≤ 3 ∧ (3 : Int) < 4 by decide).1 (show (0 : Int) ≤ 3 ∧ (3 : Int) < 4 by decide).2 (q := 3) (off := 3) rfl rfl) rfl rfl rfl ?_; refine At.Still.nil ?_; refine At.store rfl rfl rfl rfl .z rfl rfl rfl (.s (.s (.s (.c .n)))) ?_; refine At.nil ?_; refine At.ibn ?_; refine At.thn (At.region (At.run 2 rfl (nT ?_))); refine At.round ?_; refine sR 1 rfl (nT (At.seq ?_)); refine At.condF rfl rfl ?_; refine At.exit ?_; refine At.the ?_; refine At.the ?_; refine At.ibx ?_; refine At.thn (At.seq (At.region (At.y (Y.load rfl rfl .z rfl rfl rfl) rfl rfl rfl ?_))); refine At.store rfl rfl rfl rfl (.s .z) rfl rfl rfl (.c (.c (.c (.c .n)))) ?_; refine nT (At.ret ?_); refine At.resM (.inl rfl) rfl (RV.cell rfl rfl .z rfl rfl rfl RV.nil) ?_; refine At.drop .z (At.drop .z (At.drop .z ?_)); cases bret j; exact fun a w e hs => ⟨_, ⟨rfl, rfl⟩, hs⟩

noncomputable def Q66.f (U : Int) (V : List (Bs × Q0)) (X : List (Q7 × Q0)) (Z : List Q9) (a0 : List Int) (q u D G : Int) (a1 : List Q0) (I J L O : Int) : Option (Int × Int × Int × Int) :=
 (Q128.f q u D G I J L O).bind fun p =>
 some (p.1, p.2.1, p.2.2.1, p.2.2.2)
theorem Q66.callee : Callee Tryz.prog 116 := ⟨_, Tryz.func116, by kernel_rfl, by kernel_rfl⟩
theorem Q66.spec {u D G I J L O U V : Int} {X : List (Bs × Q0)} {Z : List (Q7 × Q0)} {a0 : List Q9} {p : List Int} {q : List Q0} (hr0_1 : RdS Q9.fl.rep R.heap A0_1 a0) (hn0_1 : a0.length = n0_1) (hc0_1 : n0_1 ≤ c0_1) (hn0_2 : p.length = n0_2) (hn0_7 : q.length = n0_7) {r : Int × Int × Int × Int} (j : Q66.f u X Z a0 p D G I J q L O U V = some r) :
 Spec Tryz.prog 116 [bp b0, .agg #[.int .u64 L, .int .u64 O, .int .u64 U, .int .u64 V]] R (pc b0 [bp b0_0, .slice A0_1 n0_1 c0_1, .slice A0_2 n0_2 c0_2, .int .u64 D, .int .u64 G, .int .u64 I, .int .u64 J, .slice A0_7 n0_7 c0_7] 177 :: pc b0_0 [i6 u, .map (some b0_0_1), .map (some b0_0_2)] 91 :: mapo Fl.bs.ov Q0.fl.av b0_0_1 X :: mapo Q7.fl.av Q0.fl.av b0_0_2 Z :: row (Fl.int .i64) 3 A0_2 n0_2 c0_2 p :: row Q0.fl 43 A0_7 n0_7 c0_7 q :: Fr) (fun v l' => v = .agg #[.int .u64 r.1, .int .u64 r.2.1, .int .u64 r.2.2.1, .int .u64 r.2.2.2] ∧ pc b0 [bp b0_0, .slice A0_1 n0_1 c0_1, .slice A0_2 n0_2 c0_2, .int .u64 D, .int .u64 G, .int .u64 I, .int .u64 J, .slice A0_7 n0_7 c0_7] 177 :: pc b0_0 [i6 u, .map (some b0_0_1), .map (some b0_0_2)] 91 :: mapo Fl.bs.ov Q0.fl.av b0_0_1 X :: mapo Q7.fl.av Q0.fl.av b0_0_2 Z :: row (Fl.int .i64) 3 A0_2 n0_2 c0_2 p :: row Q0.fl 43 A0_7 n0_7 c0_7 q :: Fr = l') := by
 subst hn0_1; subst hn0_2; subst hn0_7; refine Spec.of Tryz.func116 rfl rfl ?_; unfold Q66.f at j; have j := brun j; refine At.seq (At.region ?_); refine At.box rfl rfl (cs := [.int .u64 L, .int .u64 O, .int .u64 U, .int .u64 V]) rfl rfl (fun a1 => ?_); refine At.alloc rfl rfl rfl (fun a3 => ?_); refine nT (At.seq ?_); refine At.held [pc a1 [.int .u64 L, .int .u64 O, .int .u64 U, .int .u64 V] 43, pc b0 [bp b0_0, .slice A0_1 a0.length c0_1, .slice A0_2 p.length c0_2, .int .u64 D, .int .u64 G, .int .u64 I, .int .u64 J, .slice A0_7 q.length c0_7] 177, pc b0_0 [i6 u, .map (some b0_0_1), .map (some b0_0_2)] 91, mapo Fl.bs.ov Q0.fl.av b0_0_1 X, mapo Q7.fl.av Q0.fl.av b0_0_2 Z, row (Fl.int .i64) 3 A0_2 p.length c0_2 p, row Q0.fl 43 A0_7 q.length c0_7 q] 7 rfl ?_; refine At.H.pw 0 rfl rfl rfl rfl rfl (.c (.s .z) (.c (.s .z) (.c (.s .z) (.c (.s .z) (.c (.s .z) (.c (.s .z) (.c (.s .z) .n))))))) ?_; refine At.H.pw 1 rfl rfl rfl rfl rfl (.c (.s .z) (.c (.s .z) (.c (.s .z) (.c (.s .z) (.c (.s .z) (.c (.s .z) (.c (.s .z) .n))))))) ?_; refine At.H.pw 2 rfl rfl rfl rfl rfl (.c (.s .z) (.c (.s .z) (.c (.s .z) (.c (.s .z) (.c (.s .z) (.c (.s .z) (.c (.s .z) .n))))))) ?_; refine At.H.tw 3 rfl (Y.load rfl rfl (.s .z) rfl rfl rfl) rfl rfl rfl (.c (.s .z) (.c (.s .z) (.c (.s .z) (.c (.s .z) (.c (.s .z) (.c (.s .z) (.c (.s .z) .n))))))) ?_; refine At.H.tw 4 rfl (Y.load rfl rfl .z rfl rfl rfl) rfl rfl rfl (.c (.s .z) (.c (.s .z) (.c (.s .z) (.c (.s .z) (.c (.s .z) (.c (.s .z) (.c (.s .z) .n))))))) ?_; refine At.H.al [5] (Q4 ?_ Q6)
 ··refine At.HO.op rfl ?_
   obtain ⟨a4, a2, j⟩ := bbind j; refine At.call rfl Q128.callee rfl rfl rfl (Q128.spec a2) ?_; rintro _ _ ⟨rfl, rfl⟩; refine At.HO.back (.c (.s .z) (.c (.s .z) (.c (.s .z) (.c (.s .z) (.c (.s .z) (.c (.s .z) (.c (.s .z) .n))))))) ?_; refine At.H.al [6] (Q4 ?_ Q6)
   ··refine At.HO.op rfl ?_
     refine At.store rfl rfl rfl rfl .z rfl rfl rfl (.c (.c (.c (.c .n)))) ?_; refine At.HO.back (.c (.s .z) (.c (.s .z) (.c (.s .z) (.c (.s .z) (.c (.s .z) (.c (.s .z) (.c (.s .z) .n))))))) ?_; refine At.H.done (by kernel_rfl) ?_; refine At.thn (At.ret ?_); refine At.resM (.inl rfl) rfl (RV.cell rfl rfl .z rfl rfl rfl RV.nil) ?_; refine At.drop .z (At.drop .z ?_); cases bret j; exact fun a w e hs => ⟨_, ⟨rfl, rfl⟩, hs⟩

end Go.Bw
namespace Go.Bw
open Go Go.RowKit

abbrev PS := Int → Prop
def Leafy (k : Int) : Prop := k = 1 ∨ k = 2 ∨ k = 3 ∨ k = 4 ∨ k = 12
def Modal (k : Int) : Prop := k = 8 ∨ k = 9
def Fixy (k : Int) : Prop := k = 10 ∨ k = 11
def Twoy (k : Int) : Prop := k = 6 ∨ k = 7
inductive Sb (f : List Q9) : Int → Int → Prop
 | leaf {n : Int} (h0 : 0 ≤ n) (h1 : n < f.length) (hk : Leafy (gt f n).Kind) : Sb f n n
 | not {l n : Int} (h1 : n < f.length) (hk : (gt f n).Kind = 5) (ha : (gt f n).A = n - 1) (s : Sb f l (n - 1)) : Sb f l n
 | modal {l n : Int} (h1 : n < f.length) (hk : Modal (gt f n).Kind) (ha : (gt f n).A = n - 1) (s : Sb f l (n - 1)) : Sb f l n
 | fix {l n : Int} (h1 : n < f.length) (hk : Fixy (gt f n).Kind) (ha : (gt f n).A = n - 1) (s : Sb f l (n - 1)) : Sb f l n
 | two {l m n : Int} (h1 : n < f.length) (hk : Twoy (gt f n).Kind) (ha : (gt f n).A = m) (hb : (gt f n).B = n - 1) (s : Sb f l m) (t : Sb f (m + 1) (n - 1)) : Sb f l n
theorem Sb.le {f : List Q9} {l n : Int} (s : Sb f l n) : 0 ≤ l ∧ l ≤ n ∧ n < f.length := by
 induction s with
 | leaf h0 h1 hk => omega
 | not h1 hk ha s ih => omega
 | modal h1 hk ha s ih => omega
 | fix h1 hk ha s ih => omega
 | two h1 hk ha hb s t ih1 ih2 => omega
inductive Bd (f : List Q9) (to : List Int) : List (Int × Bool) → Int → Int → Prop
 | var {sc : List (Int × Bool)} {n : Int} (h0 : 0 ≤ n) (h1 : n < f.length) (hk : (gt f n).Kind = 4) (hs : (gt to n, true) ∈ sc) : Bd f to sc n n
 | leaf {sc : List (Int × Bool)} {n : Int} (h0 : 0 ≤ n) (h1 : n < f.length) (hk : Leafy (gt f n).Kind) (h4 : (gt f n).Kind ≠ 4) : Bd f to sc n n
 | not {sc : List (Int × Bool)} {l n : Int} (h1 : n < f.length) (hk : (gt f n).Kind = 5) (ha : (gt f n).A = n - 1) (s : Bd f to (sc.map fun p => (p.1, !p.2)) l (n - 1)) : Bd f to sc l n
 | modal {sc : List (Int × Bool)} {l n : Int} (h1 : n < f.length) (hk : Modal (gt f n).Kind) (ha : (gt f n).A = n - 1) (s : Bd f to sc l (n - 1)) : Bd f to sc l n
 | fix {sc : List (Int × Bool)} {l n : Int} (h1 : n < f.length) (hk : Fixy (gt f n).Kind) (ha : (gt f n).A = n - 1) (s : Bd f to ((n, true) :: sc) l (n - 1)) : Bd f to sc l n
 | two {sc : List (Int × Bool)} {l m n : Int} (h1 : n < f.length) (hk : Twoy (gt f n).Kind) (ha : (gt f n).A = m) (hb : (gt f n).B = n - 1) (s : Bd f to sc l m) (t : Bd f to sc (m + 1) (n - 1)) : Bd f to sc l n
theorem Bd.le {f : List Q9} {to : List Int} {sc : List (Int × Bool)} {l n : Int} (s : Bd f to sc l n) : 0 ≤ l ∧ l ≤ n ∧ n < f.length := by
 induction s with
 | var h0 h1 hk hs => omega
 | leaf h0 h1 hk h4 => omega
 | not h1 hk ha s ih => omega
 | modal h1 hk ha s ih => omega
 | fix h1 hk ha s ih => omega
 | two h1 hk ha hb s t ih1 ih2 => omega
structure Ctx where
 N : Int
 holds : Bs → PS
 edge : Bs → Int → Int → Prop
def Ctx.all (C : Ctx) : PS := fun s => 0 ≤ s ∧ s < C.N
structure Ctx.Ok (C : Ctx) : Prop where
 holds : ∀ a s, C.holds a s → C.all s
 edge : ∀ a s t, C.edge a s t → C.all s ∧ C.all t
def updE (E : Int → PS) (n : Int) (S : PS) : Int → PS := fun m => if m = n then S else E m
theorem Q129 (E : Int → PS) (n : Int) (S : PS) : updE E n S n = S := if_pos rfl
theorem Q137 {E : Int → PS} {n m : Int} {S : PS} (h : m ≠ n) : updE E n S m = E m := if_neg h
def Le (S T : PS) : Prop := ∀ s, S s → T s
def lfp (F : PS → PS) : PS := fun s => ∀ S : PS, Le (F S) S → S s
def gfp (F : PS → PS) : PS := fun s => ∃ S : PS, Le S (F S) ∧ S s
def den (C : Ctx) (f : List Q9) (to : List Int) (n : Int) (E : Int → PS) : PS :=
 if (gt f n).Kind = 1 then C.all
 else if (gt f n).Kind = 3 then C.holds (gt f n).Name
 else if (gt f n).Kind = 12 then fun s => C.all s ∧ ¬ C.holds (gt f n).Name s
 else if (gt f n).Kind = 4 then E (gt to n)
 else if h : 0 ≤ (gt f n).A ∧ (gt f n).A < n then
  if (gt f n).Kind = 5 then fun s => C.all s ∧ ¬ den C f to (gt f n).A E s
  else if (gt f n).Kind = 8 then fun s => ∃ t, C.edge (gt f n).Name s t ∧ den C f to (gt f n).A E t
  else if (gt f n).Kind = 9 then fun s => C.all s ∧ ∀ t, C.edge (gt f n).Name s t → den C f to (gt f n).A E t
  else if (gt f n).Kind = 10 then lfp fun S => den C f to (gt f n).A (updE E n S)
  else if (gt f n).Kind = 11 then gfp fun S s => C.all s ∧ den C f to (gt f n).A (updE E n S) s
  else if h2 : 0 ≤ (gt f n).B ∧ (gt f n).B < n then
   if (gt f n).Kind = 6 then fun s => den C f to (gt f n).A E s ∧ den C f to (gt f n).B E s
   else if (gt f n).Kind = 7 then fun s => den C f to (gt f n).A E s ∨ den C f to (gt f n).B E s
   else fun _ => False
  else fun _ => False
 else fun _ => False
termination_by n.toNat
decreasing_by all_goals omega
section
variable {C : Ctx} {f : List Q9} {to : List Int} {n : Int} {E : Int → PS}
theorem Q160 (hk : (gt f n).Kind = 1) : den C f to n E = C.all := by rw [den, if_pos hk]
theorem Q166 (hk : (gt f n).Kind = 2) : den C f to n E = fun _ => False := by
 rw [den, hk]
 simp
theorem Q165 (hk : (gt f n).Kind = 3) : den C f to n E = C.holds (gt f n).Name := by rw [den, hk]; simp
theorem Q163 (hk : (gt f n).Kind = 12) : den C f to n E = fun s => C.all s ∧ ¬ C.holds (gt f n).Name s := by rw [den, hk]; simp
theorem Q171 (hk : (gt f n).Kind = 4) : den C f to n E = E (gt to n) := by rw [den, hk]; simp
theorem Q170 (hk : (gt f n).Kind = 5) (ha : (gt f n).A = n - 1) (h : 0 ≤ n - 1) : den C f to n E = fun s => C.all s ∧ ¬ den C f to (n - 1) E s := by
 rw [den, hk, ha]
 simp [show 1 ≤ n by omega, show ¬ n ≤ n - 1 by omega]
theorem Q158 (hk : (gt f n).Kind = 8) (ha : (gt f n).A = n - 1) (h : 0 ≤ n - 1) : den C f to n E = fun s => ∃ t, C.edge (gt f n).Name s t ∧ den C f to (n - 1) E t := by
 rw [den, hk, ha]
 simp [show 1 ≤ n by omega, show ¬ n ≤ n - 1 by omega]
theorem Q167 (hk : (gt f n).Kind = 9) (ha : (gt f n).A = n - 1) (h : 0 ≤ n - 1) : den C f to n E = fun s => C.all s ∧ ∀ t, C.edge (gt f n).Name s t → den C f to (n - 1) E t := by
 rw [den, hk, ha]
 simp [show 1 ≤ n by omega, show ¬ n ≤ n - 1 by omega]
theorem Q157 (hk : (gt f n).Kind = 10) (ha : (gt f n).A = n - 1) (h : 0 ≤ n - 1) : den C f to n E = lfp fun S => den C f to (n - 1) (updE E n S) := by
 rw [den, hk, ha]
 simp [show 1 ≤ n by omega, show ¬ n ≤ n - 1 by omega]
theorem Q164 (hk : (gt f n).Kind = 11) (ha : (gt f n).A = n - 1) (h : 0 ≤ n - 1) : den C f to n E = gfp fun S s => C.all s ∧ den C f to (n - 1) (updE E n S) s := by
 rw [den, hk, ha]
 simp [show 1 ≤ n by omega, show ¬ n ≤ n - 1 by omega]
theorem Q162 {m : Int} (hk : (gt f n).Kind = 6) (ha : (gt f n).A = m) (hb : (gt f n).B = n - 1) (h : 0 ≤ m) (h2 : m < n) : den C f to n E = fun s => den C f to m E s ∧ den C f to (n - 1) E s := by
 rw [den, hk, ha, hb]
 simp [h, h2, show 1 ≤ n by omega, show ¬ n ≤ n - 1 by omega]
theorem Q169 {m : Int} (hk : (gt f n).Kind = 7) (ha : (gt f n).A = m) (hb : (gt f n).B = n - 1) (h : 0 ≤ m) (h2 : m < n) : den C f to n E = fun s => den C f to m E s ∨ den C f to (n - 1) E s := by
 rw [den, hk, ha, hb]
 simp [h, h2, show 1 ≤ n by omega, show ¬ n ≤ n - 1 by omega]
end
def Way (sc : List (Int × Bool)) (E E' : Int → PS) : Prop := ∀ p ∈ sc, if p.2 = true then Le (E p.1) (E' p.1) else Le (E' p.1) (E p.1)
theorem Way.flip {sc : List (Int × Bool)} {E E' : Int → PS} (h : Way sc E E') : Way (sc.map fun p => (p.1, !p.2)) E' E := fun p hp => by
 obtain ⟨q, hq, rfl⟩ := List.mem_map.1 hp
 have := h q hq
 cases hb : q.2 <;> simp [hb] at this ⊢ <;> exact this
theorem Way.cons {sc : List (Int × Bool)} {E E' : Int → PS} (h : Way sc E E') {n : Int} (hn : ∀ p ∈ sc, p.1 ≠ n) {S S' : PS} (hS : Le S S') : Way ((n, true) :: sc) (updE E n S) (updE E' n S') := fun p hp => by
 rcases List.mem_cons.1 hp with rfl | hp
 ·simp [Q129]
  exact hS
 ·rw [Q137 (hn p hp), Q137 (hn p hp)]
  exact h p hp
theorem Way.rfl (sc : List (Int × Bool)) (E : Int → PS) : Way sc E E := fun p _ => by split <;> exact fun _ h => h
theorem lfp_mono {F G : PS → PS} (h : ∀ S, Le (F S) (G S)) : Le (lfp F) (lfp G) := fun s hs S hS => hs S fun t ht => hS t (h S t ht)
theorem gfp_mono {F G : PS → PS} (h : ∀ S, Le (F S) (G S)) : Le (gfp F) (gfp G) := fun s ⟨S, hS, hs⟩ => ⟨S, fun t ht => h S t (hS t ht), hs⟩
theorem Q232 {F : PS → PS} (hF : ∀ S T, Le S T → Le (F S) (F T)) : Le (F (lfp F)) (lfp F) := fun s hs S hS => hS s (hF _ _ (fun t ht => ht S hS) s hs)
theorem gfp_post {F : PS → PS} (hF : ∀ S T, Le S T → Le (F S) (F T)) : Le (gfp F) (F (gfp F)) := fun s ⟨S, hS, hs⟩ => hF _ _ (fun t ht => ⟨S, hS, ht⟩) s (hS s hs)
theorem Q233 {C : Ctx} {f : List Q9} {to : List Int} {sc : List (Int × Bool)} {l n : Int} (b : Bd f to sc l n) : ∀ {E E' : Int → PS}, (∀ p ∈ sc, n < p.1) → Way sc E E' → Le (den C f to n E) (den C f to n E') := by
 induction b with
 | @var sc n h0 h1 hk hs => intro E E' hn h; rw [Q171 hk, Q171 hk]; simpa using h _ hs
 | @leaf sc n h0 h1 hk h4 =>
  intro E E' hn h
  rcases hk with hk | hk | hk | hk | hk
  ·rw [Q160 hk, Q160 hk]; exact fun _ h => h
  ·rw [Q166 hk, Q166 hk]; exact fun _ h => h
  ·rw [Q165 hk, Q165 hk]; exact fun _ h => h
  ·exact absurd hk h4
  ·rw [Q163 hk, Q163 hk]; exact fun _ h => h
 | @not sc l n h1 hk ha s ih =>
  intro E E' hn h
  have := s.le
  rw [Q170 hk ha (by omega), Q170 hk ha (by omega)]
  exact fun s hs => ⟨hs.1, fun hd => hs.2 (ih (fun p hp => by obtain ⟨q, hq, rfl⟩ := List.mem_map.1 hp; have := hn q hq; dsimp only; omega) h.flip s hd)⟩
 | @modal sc l n h1 hk ha s ih =>
  intro E E' hn h
  have := s.le
  have ih := ih (fun p hp => by have := hn p hp; omega) h
  rcases hk with hk | hk
  ·rw [Q158 hk ha (by omega), Q158 hk ha (by omega)]
   exact fun s ⟨t, h1, h2⟩ => ⟨t, h1, ih t h2⟩
  ·rw [Q167 hk ha (by omega), Q167 hk ha (by omega)]
   exact fun s ⟨h0, h⟩ => ⟨h0, fun t ht => ih t (h t ht)⟩
 | @fix sc l n h1 hk ha s ih =>
  intro E E' hn h
  have := s.le
  have ih : ∀ S, Le (den C f to (n - 1) (updE E n S)) (den C f to (n - 1) (updE E' n S)) := fun S => ih (fun p hp => by
   rcases List.mem_cons.1 hp with rfl | hp
   ·dsimp only; omega
   ·have := hn p hp; omega) (h.cons (fun p hp => by have := hn p hp; omega) fun _ h => h)
  rcases hk with hk | hk
  ·rw [Q157 hk ha (by omega), Q157 hk ha (by omega)]
   exact lfp_mono ih
  ·rw [Q164 hk ha (by omega), Q164 hk ha (by omega)]
   exact gfp_mono fun S s hs => ⟨hs.1, ih S s hs.2⟩
 | @two sc l m n h1 hk ha hb s t ih1 ih2 =>
  intro E E' hn h
  have := s.le
  have := t.le
  have ih1 := ih1 (fun p hp => by have := hn p hp; omega) h
  have ih2 := ih2 (fun p hp => by have := hn p hp; omega) h
  rcases hk with hk | hk
  ·rw [Q162 hk ha hb (by omega) (by omega), Q162 hk ha hb (by omega) (by omega)]
   exact fun s hs => ⟨ih1 s hs.1, ih2 s hs.2⟩
  ·rw [Q169 hk ha hb (by omega) (by omega), Q169 hk ha hb (by omega) (by omega)]
   exact fun s hs => hs.imp (ih1 s) (ih2 s)
theorem Q196 {C : Ctx} (hC : C.Ok) {f : List Q9} {to : List Int} {sc : List (Int × Bool)} {l n : Int} (b : Bd f to sc l n) : ∀ {E : Int → PS}, (∀ p ∈ sc, Le (E p.1) C.all) → (∀ p ∈ sc, n < p.1) → Le (den C f to n E) C.all := by
 induction b with
 | @var sc n h0 h1 hk hs => intro E h hn; rw [Q171 hk]; exact h _ hs
 | @leaf sc n h0 h1 hk h4 =>
  intro E h hn
  rcases hk with hk | hk | hk | hk | hk
  ·rw [Q160 hk]; exact fun _ h => h
  ·rw [Q166 hk]; exact fun _ h => h.elim
  ·rw [Q165 hk]; exact fun _ h => hC.holds _ _ h
  ·exact absurd hk h4
  ·rw [Q163 hk]; exact fun _ h => h.1
 | @not sc l n h1 hk ha s ih =>
  intro E h hn
  have := s.le
  rw [Q170 hk ha (by omega)]
  exact fun _ h => h.1
 | @modal sc l n h1 hk ha s ih =>
  intro E h hn
  have := s.le
  rcases hk with hk | hk
  ·rw [Q158 hk ha (by omega)]
   exact fun s ⟨t, h1, h2⟩ => (hC.edge _ _ _ h1).1
  ·rw [Q167 hk ha (by omega)]
   exact fun s h => h.1
 | @fix sc l n h1 hk ha s ih =>
  intro E h hn
  have := s.le
  rcases hk with hk | hk
  ·rw [Q157 hk ha (by omega)]
   refine fun s hs => hs C.all (ih (fun p hp => ?_) fun p hp => ?_)
   ·rcases List.mem_cons.1 hp with rfl | hp
    ·rw [Q129]; exact fun _ h => h
    ·rw [Q137 (by have := hn p hp; omega)]; exact h p hp
   ·rcases List.mem_cons.1 hp with rfl | hp
    ·dsimp only; omega
    ·have := hn p hp; omega
  ·rw [Q164 hk ha (by omega)]
   exact fun s ⟨S, hS, hs⟩ => (hS s hs).1
 | @two sc l m n h1 hk ha hb s t ih1 ih2 =>
  intro E h hn
  have := s.le
  have := t.le
  rcases hk with hk | hk
  ·rw [Q162 hk ha hb (by omega) (by omega)]
   exact fun s hs => ih1 h (fun p hp => by have := hn p hp; omega) s hs.1
  ·rw [Q169 hk ha hb (by omega) (by omega)]
   exact fun s hs => hs.elim (ih1 h (fun p hp => by have := hn p hp; omega) s) (ih2 h (fun p hp => by have := hn p hp; omega) s)
end Go.Bw
namespace Go.Bw
open Go Go.RowKit

def Ap {α : Type} (a b : Option α) : Prop := ∀ r, a = some r → b = some r
section
variable {α β σ τ ρ : Type}
theorem Ap.refl (a : Option α) : Ap a a := fun _ h => h
theorem Ap.none {b : Option α} : Ap Option.none b := fun _ h => by cases h
theorem Ap.bind {a b : Option α} {f g : α → Option β} (h : Ap a b) (k : ∀ t, Ap (f t) (g t)) : Ap (a.bind f) (b.bind g) := fun r e => by
 cases ha : a with
 | none => rw [ha] at e; cases e
 | some t => rw [ha] at e; rw [h t ha]; exact k t r e
theorem Ap.ite {c : Prop} [i : Decidable c] [j : Decidable c] {a b a' b' : Option α} (h : Ap a a') (k : Ap b b') : Ap (@_root_.ite _ c i a b) (@_root_.ite _ c j a' b') := fun r e => by
 by_cases hc : c
 ·rw [if_pos hc] at e ⊢; exact h r e
 ·rw [if_neg hc] at e ⊢; exact k r e
theorem Ap.jn {a b : Option (σ ⊕ ρ)} {f g : σ → Option ρ} (h : Ap a b) (k : ∀ t, Ap (f t) (g t)) : Ap (Bw.jn a f) (Bw.jn b g) := fun r e => by
 cases ha : a with
 | none => rw [ha] at e; cases e
 | some t =>
  rw [ha] at e
  rw [h t ha]
  cases t with
  | inl s => exact k s r e
  | inr o => exact e
theorem Ap.up {a b : Option ρ} (h : Ap a b) : Ap (Bw.up a : Option (σ ⊕ ρ)) (Bw.up b) := fun r e => by
 cases ha : a with
 | none => rw [ha] at e; cases e
 | some t => rw [ha] at e; rw [h t ha]; exact e
def iterC (fu : Nat) (body : σ → Option (σ ⊕ ρ)) (s : σ) : Option ρ := iterN body fu s
theorem Q278 {f g : σ → Option (σ ⊕ ρ)} (h : ∀ s, Ap (f s) (g s)) : ∀ {n : Nat} {s : σ}, Ap (iterN f n s) (iterN g n s)
 | 0, _ => fun _ e => by cases e
 | n + 1, s => fun r e => by
  unfold iterN at e ⊢
  cases hf : f s with
  | none => rw [hf] at e; cases e
  | some t =>
   rw [hf] at e
   rw [h s t hf]
   cases t with
   | inl s' => exact Q278 h r e
   | inr o => exact e
theorem Ap.iter {fu : Nat} {f g : σ → Option (σ ⊕ ρ)} {s : σ} (h : ∀ s, Ap (f s) (g s)) : Ap (iterC fu f s) (Bw.iter g s) := fun r e => Q16.2 ⟨fu, Q278 h r e⟩
theorem Q285 {f g : σ → α → Option σ} (h : ∀ s x, Ap (f s x) (g s x)) : ∀ {xs : List α} {s : σ}, Ap (foldO f s xs) (foldO g s xs)
 | [], _ => fun _ e => e
 | x :: xs, s => Ap.bind (h s x) fun t => Q285 h
def orderedC (kvs : List α) (step : σ → α → Option σ) (s0 : σ) (out : σ → τ) (f : τ → Option β) : Option β := if kvs.length ≤ 1 then (foldO step s0 kvs).bind fun s => f (out s) else Option.none
theorem Ap.ordered {kvs : List α} {f g : σ → α → Option σ} {s0 : σ} {out : σ → τ} {p q : τ → Option β} (h : ∀ s x, Ap (f s x) (g s x)) (k : ∀ t, Ap (p t) (q t)) : Ap (orderedC kvs f s0 out p) (Bw.ordered kvs g s0 out q) := fun r e => by
 unfold orderedC at e
 split at e
 ·rename_i hl
  refine Q251.2 fun ys hy => ?_
  have : ys = kvs := by
   match kvs, hl with
   | [], _ => exact hy.eq_nil
   | [x], _ => exact List.perm_singleton.1 hy
   | _ :: _ :: _, hl => simp at hl
  subst this
  exact Ap.bind (Q285 h) (fun t => k _) r e
 ·cases e
def soloC (a : List α) : Option (List α) := if a.length ≤ 1 then some a else Option.none
theorem Q235 {a r : List α} (h : soloC a = some r) : r = a ∧ (a = [] ∨ ∃ x, a = [x]) := by
 unfold soloC at h
 split at h
 ·rename_i hl
  refine ⟨(Option.some.inj h).symm, ?_⟩
  match a, hl with
  | [], _ => exact .inl rfl
  | [x], _ => exact .inr ⟨x, rfl⟩
  | _ :: _ :: _, hl => simp at hl
 ·cases h
end
end Go.Bw
namespace Go.Bw
open Go Go.RowKit Go.Proofs Go.Sort

def cmp3 (a b : Int) : Int := if a < b then -1 else if b < a then 1 else 0
theorem Q255 (a b : Int) : Q69.f a b = some (cmp3 a b) := by
 unfold Q69.f Q105.f cmp3
 simp
 split
 ·rfl
 ·split <;> rfl
theorem Q172 {a b : Int} : cmp3 a b < 0 ↔ a < b := by
 unfold cmp3
 split
 ·simp [*]
 ·split <;> simp <;> omega
theorem Q194 {a b : Int} : cmp3 a b = 0 ↔ a = b := by
 unfold cmp3
 split
 ·simp; omega
 ·split <;> simp <;> omega
theorem or_run (a b c : Int) : Q30.f [a, b, c] = some (if a = 0 then if b = 0 then c else b else a) := by
 unfold Q30.f Q30.l0
 by_cases ha : a = 0
 ·by_cases hb : b = 0
  ·by_cases hc : c = 0
   ·subst ha hb hc
    rw [Q70, Q30.l0b]
    simp [nx, gt, IntKind.wrap, IntKind.bits, IntKind.signed]
    rw [Q70, Q30.l0b]
    simp [nx, gt, IntKind.wrap, IntKind.bits, IntKind.signed]
    rw [Q70, Q30.l0b]
    simp [nx, gt, IntKind.wrap, IntKind.bits, IntKind.signed]
    rw [Q70, Q30.l0b]
    simp [dn, jn]
   ·subst ha hb
    rw [Q70, Q30.l0b]
    simp [nx, gt, IntKind.wrap, IntKind.bits, IntKind.signed]
    rw [Q70, Q30.l0b]
    simp [nx, gt, IntKind.wrap, IntKind.bits, IntKind.signed]
    rw [Q70, Q30.l0b]
    simp [nx, gt, hc, upL, jn]
  ·subst ha
   rw [Q70, Q30.l0b]
   simp [nx, gt, IntKind.wrap, IntKind.bits, IntKind.signed]
   rw [Q70, Q30.l0b]
   simp [nx, gt, hb, upL, jn]
 ·rw [Q70, Q30.l0b]
  simp [nx, gt, ha, upL, jn]
def edgeCmp (x y : Q1) : Int := if cmp3 x.From y.From = 0 then if cmp3 x.Action y.Action = 0 then cmp3 x.To y.To else cmp3 x.Action y.Action else cmp3 x.From y.From
theorem Q272 (x y : Q1) : Q99.f x.From x.Action x.To y.From y.Action y.To = some (edgeCmp x y) := by
 unfold Q99.f
 simp only [Q255, Option.bind_some, or_run]
 rfl
theorem Q275 (x y : Q1) : Q34.cmp x y = some (edgeCmp x y) := Q272 x y
def edgeLt (x y : Q1) : Prop := x.From < y.From ∨ x.From = y.From ∧ (x.Action < y.Action ∨ x.Action = y.Action ∧ x.To < y.To)
theorem Q231 {x y : Q1} : edgeCmp x y < 0 ↔ edgeLt x y := by
 unfold edgeCmp edgeLt
 by_cases h1 : x.From = y.From
 ·rw [if_pos (Q194.2 h1)]
  by_cases h2 : x.Action = y.Action
  ·rw [if_pos (Q194.2 h2), Q172]; omega
  ·rw [if_neg (fun h => h2 (Q194.1 h)), Q172]; omega
 ·rw [if_neg (fun h => h1 (Q194.1 h)), Q172]; omega
theorem Q155 (x y : Q1) : ltOf (gcf Q34.cmp) x y = true ↔ edgeLt x y := by
 unfold ltOf gcf
 rw [Q275]
 simp [Q231]
theorem edge_ltOf' (x y : Q1) : ltOf (gcf Q34.cmp) x y = false ↔ ¬ edgeLt x y := by
 rw [← Q155]; simp
theorem edge_tot : CmpTot Q34.cmp := by
 refine ⟨⟨fun x y => by rw [Q275]; rfl, fun x => ?_, fun x y z h1 h2 => ?_, fun x y z h1 h2 => ?_⟩, fun x y h1 h2 => ?_⟩
 ·rw [edge_ltOf']; unfold edgeLt; omega
 ·rw [Q155] at *; unfold edgeLt at *; omega
 ·rw [edge_ltOf'] at *; unfold edgeLt at *; omega
 ·rw [edge_ltOf'] at *
  unfold edgeLt at *
  cases x
  cases y
  simp at *
  omega
theorem Q228 : ∀ (x : Bs), Lib.compareBytes x x = 0
 | [] => rfl
 | a :: x => by unfold Lib.compareBytes; rw [if_neg (UInt8.lt_irrefl a), if_neg (UInt8.lt_irrefl a)]; exact Q228 x
theorem cb_eq : ∀ {x y : Bs}, Lib.compareBytes x y = 0 → x = y
 | [], [], _ => rfl
 | [], _ :: _, h => by simp [Lib.compareBytes] at h
 | _ :: _, [], h => by simp [Lib.compareBytes] at h
 | a :: x, b :: y, h => by
  unfold Lib.compareBytes at h
  split at h
  ·simp at h
  ·split at h
   ·simp at h
   ·rename_i h1 h2
    rw [cb_eq h, UInt8.le_antisymm (UInt8.not_lt.1 h2) (UInt8.not_lt.1 h1)]
theorem cb_neg : ∀ {x y : Bs}, Lib.compareBytes y x = - Lib.compareBytes x y
 | [], [] => rfl
 | [], _ :: _ => rfl
 | _ :: _, [] => rfl
 | a :: x, b :: y => by
  unfold Lib.compareBytes
  by_cases h1 : a < b
  ·rw [if_neg (UInt8.lt_asymm h1), if_pos h1, if_pos h1]; rfl
  ·by_cases h2 : b < a
   ·rw [if_pos h2, if_neg h1, if_pos h2]
   ·rw [if_neg h1, if_neg h2, if_neg h2, if_neg h1]; exact cb_neg
theorem Q207 : ∀ {x y z : Bs}, Lib.compareBytes x y < 0 → Lib.compareBytes y z < 0 → Lib.compareBytes x z < 0
 | [], [], _, h, _ => by simp [Lib.compareBytes] at h
 | [], _ :: _, [], _, h => by simp [Lib.compareBytes] at h
 | [], _ :: _, _ :: _, _, _ => by simp [Lib.compareBytes]
 | _ :: _, [], _, h, _ => by simp [Lib.compareBytes] at h
 | _ :: _, _ :: _, [], _, h => by simp [Lib.compareBytes] at h
 | a :: x, b :: y, c :: z, h1, h2 => by
  unfold Lib.compareBytes at h1 h2 ⊢
  by_cases hab : a < b
  ·by_cases hbc : b < c
   ·rw [if_pos (UInt8.lt_trans hab hbc)]; decide
   ·rw [if_neg hbc] at h2
    by_cases hcb : c < b
    ·rw [if_pos hcb] at h2; simp at h2
    ·have : b = c := UInt8.le_antisymm (UInt8.not_lt.1 hcb) (UInt8.not_lt.1 hbc)
     subst this
     rw [if_pos hab]; decide
  ·rw [if_neg hab] at h1
   by_cases hba : b < a
   ·rw [if_pos hba] at h1; simp at h1
   ·have : a = b := UInt8.le_antisymm (UInt8.not_lt.1 hba) (UInt8.not_lt.1 hab)
    subst this
    rw [if_neg hba] at h1
    by_cases hbc : a < c
    ·rw [if_pos hbc]; decide
    ·rw [if_neg hbc] at h2 ⊢
     by_cases hcb : c < a
     ·rw [if_pos hcb] at h2; simp at h2
     ·rw [if_neg hcb] at h2 ⊢
      exact Q207 h1 h2
theorem Q248 (x y : Q2) : Q43.cmp x y = some (Lib.compareBytes x.Name y.Name) := rfl
theorem Q180 (x y : Q2) : ltOf (gcf Q43.cmp) x y = true ↔ Lib.compareBytes x.Name y.Name < 0 := by
 unfold ltOf gcf
 rw [Q248]
 simp
theorem prop_ltOf' (x y : Q2) : ltOf (gcf Q43.cmp) x y = false ↔ 0 ≤ Lib.compareBytes x.Name y.Name := by
 have := Q180 x y
 rw [← Bool.not_eq_true, this]; omega
theorem prop_swo : CmpSwo Q43.cmp := by
 refine ⟨fun x y => by rw [Q248]; rfl, fun x => ?_, fun x y z h1 h2 => ?_, fun x y z h1 h2 => ?_⟩
 ·rw [prop_ltOf', Q228]; decide
 ·rw [Q180] at *; exact Q207 h1 h2
 ·rw [prop_ltOf'] at *
  rw [cb_neg] at h1 h2 ⊢
  have h1' : Lib.compareBytes y.Name x.Name ≤ 0 := by omega
  have h2' : Lib.compareBytes z.Name y.Name ≤ 0 := by omega
  by_cases e1 : Lib.compareBytes y.Name x.Name = 0
  ·rw [← cb_eq e1]; omega
  ·by_cases e2 : Lib.compareBytes z.Name y.Name = 0
   ·rw [cb_eq e2]; omega
   ·have := Q207 (show Lib.compareBytes z.Name y.Name < 0 by omega) (show Lib.compareBytes y.Name x.Name < 0 by omega)
    omega
end Go.Bw
namespace Go.Bw
open Go Go.RowKit

theorem Q35 {σ ρ : Type} {body : σ → Option (σ ⊕ ρ)} (I : σ → Prop) (Q : ρ → Prop) (μ : σ → Nat) (h : ∀ s, I s → (∃ r, body s = some (.inr r) ∧ Q r) ∨ ∃ s', body s = some (.inl s') ∧ I s' ∧ μ s' < μ s) :
 ∀ s, I s → ∃ r, iter body s = some r ∧ Q r := by
 have key : ∀ n s, μ s < n → I s → ∃ r, iter body s = some r ∧ Q r := by
  intro n
  induction n with
  | zero => intro s hn; omega
  | succ n ih =>
   intro s hn hI
   rw [Q70]
   rcases h s hI with ⟨r, hr, hq⟩ | ⟨s', hs, hI', hlt⟩
   ·exact ⟨r, by rw [hr]; rfl, hq⟩
   ·obtain ⟨r, hr, hq⟩ := ih s' (by omega) hI'
    exact ⟨r, by rw [hs]; exact hr, hq⟩
 exact fun s hI => key _ s (Nat.lt_succ_self _) hI
theorem wrap64 {x : Int} (h0 : -9223372036854775808 ≤ x) (h1 : x ≤ 9223372036854775807) : IntKind.i64.wrap x = x := by
 simp [IntKind.wrap, IntKind.bits, IntKind.signed]
 omega
section
variable {α : Type} [Inhabited α]
theorem Q87 (xs : List α) (i : Int) (x : α) : (st xs i x).length = xs.length := by simp [st]
theorem Q74 {xs : List α} {i j : Int} {x : α} (hi : 0 ≤ i) (hi' : i < (xs.length : Int)) (hj : 0 ≤ j) : gt (st xs i x) j = if j = i then x else gt xs j := by
 unfold gt st
 rw [List.getD_eq_getElem?_getD, List.getD_eq_getElem?_getD, List.getElem?_set]
 by_cases h : j = i
 ·subst h
  have : j.toNat < xs.length := by omega
  simp [this]
 ·have : ¬ i.toNat = j.toNat := by omega
  simp [this, h]
theorem Q48 {xs : List α} {i : Int} (h0 : 0 ≤ i) (h1 : i < (xs.length : Int)) : gt xs i ∈ xs := List.mem_of_getElem? (Q68 h0 h1)
theorem Q95 {xs : List α} {i : Nat} {x : α} (h : xs[i]? = some x) : gt xs (i : Int) = x := by
 unfold gt
 simp [List.getD_eq_getElem?_getD, h]
end
end Go.Bw
namespace Go.Bw
open Go Go.RowKit

theorem up_loop {ρ : Type} {body : Int → Option (Int ⊕ ρ)} {N : Int} {Q : ρ → Prop} (hN : N ≤ 9223372036854775807) (k0 : Int) (h0 : -9223372036854775808 ≤ k0) (h : ∀ i, k0 ≤ i → (∃ r, body i = some (.inr r) ∧ Q r) ∨ i < N ∧ body i = some (.inl (IntKind.i64.wrap (i + 1)))) :
 ∃ r, iter body k0 = some r ∧ Q r := by
 refine Q35 (fun i => k0 ≤ i) Q (fun i => (N - i).toNat) (fun i hi => ?_) k0 (Int.le_refl _)
 rcases h i hi with h | ⟨h1, h2⟩
 ·exact .inl h
 ·right
  rw [wrap64 (by omega) (by omega)] at h2
  exact ⟨_, h2, by omega, by omega⟩
theorem jn_true {x : Option (Unit ⊕ Bool)} (h : ∃ r, x = some r ∧ True) : ∃ b, jn x (fun _ => some true) = some b := by
 obtain ⟨r, rfl, _⟩ := h
 cases r <;> exact ⟨_, rfl⟩
theorem jn_int {x : Option (Unit ⊕ Int)} (h : ∃ r, x = some r ∧ True) : ∃ b, jn x (fun _ => some (-1)) = some b := by
 obtain ⟨r, rfl, _⟩ := h
 cases r <;> exact ⟨_, rfl⟩
theorem in_run (a n : Int) (x : List Bs) (y : List Q1) (z : List Q2) : Q82.f a n x y z = some (decide (0 ≤ a ∧ a < n)) := by
 unfold Q82.f
 by_cases h : 0 ≤ a <;> simp [h, jn]
theorem Q144 {σ ρ : Type} {x : Option (σ ⊕ ρ)} {f : σ → Option ρ} (hx : ∃ t, x = some t) (hf : ∀ s, ∃ r, f s = some r) : ∃ r, jn x f = some r := by
 obtain ⟨t, rfl⟩ := hx
 cases t with
 | inl s => exact hf s
 | inr r => exact ⟨r, rfl⟩
theorem rune_name (r : Int) : ∃ b, Q104.f r = some b := by
 unfold Q104.f
 repeat' first
  | exact ⟨_, rfl⟩
  | refine Q144 ?_ fun _ => ?_
  | split
def EdgeIn (n : Int) (m : Nat) (e : Q1) : Prop := 0 ≤ e.From ∧ e.From < n ∧ 0 ≤ e.To ∧ e.To < n ∧ 0 ≤ e.Action ∧ e.Action < (m : Int)
end Go.Bw
namespace Go.Bw
open Go Go.RowKit

def sufA (A : Option Addr) (c k sz : Nat) : Option Addr := if c = k then A else A.map (·.add (k * sz))
section
variable {P : Program} [Tys P] {os : List Oper} {Q : Exit → Act → World → Prop} {rest : List Oper} {n : Nat} {ds : List Deferred} {R : Res} {env : List (Nat × Value)} {l l' : List HProp}
variable {d ty : Nat} {pos : String} {af : Array Edge} {g : Option (Nat × Bool)} {α : Type} [Inhabited α] {F : Fl α} {e t t2 : Nat} {A : Option Addr} {c m : Nat} {xs : List α} {K : Act → World → Prop} {dd : Option Nat}
theorem op_v0 {o : Oper} (hg : grd os env o.guard = some true) (hdst : o.dst = none)
 (h : ∀ a w, Env n ds env a → sat R l w → ∃ v w' l', (execOp a.eval o).run P w = .ok (.value v) w' ∧ sat R l' w' ∧ At n ds R env l' (wpList P os.toArray Q rest)) :
 At n ds R env l (wpList P os.toArray Q (o :: rest)) := fun a w e hs => by
 refine wpList_step fun K hK => ?_
 rw [if_pos (Q73 e hg)]
 obtain ⟨v, w', l', hr, hs', k⟩ := h a w e hs
 unfold Oper.wp
 rw [hr]
 show K (a.put o.dst v) w'
 rw [hdst]
 exact hK _ _ (k _ _ e hs')
theorem Y.slSuf (f : Frt l (row F e A m c xs) l') {x y : Operand} {k : Int} {ki : IntKind} {ii : TI} (hi : ti P t = some ii) (hk : ii.k = .slice e) {j : TI} (hj : ti P e = some j) (hjs : j.size = F.sz) (hx : ev env x = some (.slice A m c)) (hy : ev env y = some (.int ki k)) (h0 : 0 ≤ k) (h1 : k ≤ (m : Int)) :
 Y P n ds R env l ⟨dd, .slice t x (some y) none none, ty, pos, af, g⟩ (.slice (sufA A c k.toNat F.sz) (m - k.toNat) (c - k.toNat)) := fun a w e0 hs => by
 have hu := (Q11 hi).slice hk
 have hu' : P.underlying t = some (.slice (P.elem t)) := by rw [hu]; simp [Program.elem, hu]
 have he : P.elem t = e := by rw [hu] at hu'; injection hu' with h; injection h with h; exact h.symm
 have hr := run_slice_l (P := P) (w := w) t A m c hu' ki k h0 h1
 rw [he, (Q11 hj).run_sizeOf] at hr
 simp only [execOp, e0.ev hx, e0.ev hy, Option.map_none, Option.map_some, Sem.run_bind, run_sliceAt_slice w t _ _ _ _ hu', hr, Result.andThen, Sem.run_pure, sliced, hjs, sufA]
theorem Y.ixSuf (f : Frt l (row F e A m c xs) l') {x y : Operand} {k i : Int} {ki : IntKind} {ii : TI} (hi : ti P t = some ii) (hk : ii.k = .slice e) {j : TI} (hj : ti P e = some j) (hjs : j.size = F.sz) (hx : ev env x = some (.slice (sufA A c k.toNat F.sz) (m - k.toNat) (c - k.toNat))) (hy : ev env y = some (.int ki i)) (hk0 : 0 ≤ k) (h0 : 0 ≤ i) (h1 : i < ((m - k.toNat : Nat) : Int)) :
 Y P n ds R env l ⟨dd, .indexAddr t x y, ty, pos, af, g⟩ (elp A ((k + i).toNat * F.sz)) := fun a w e0 hs => by
 obtain ⟨h', o, s⟩ := (hs.frt f).head
 have hm := Q101 o
 subst hm
 obtain ⟨gb, cur, rfl, hgb, h3, h4, h5, h6⟩ := Q153 o (by omega)
 have hA : sufA (some ⟨gb, 0, none⟩) c k.toNat F.sz = some ((⟨gb, 0, none⟩ : Addr).add (k.toNat * F.sz)) := by
  unfold sufA; rw [if_neg (by omega)]; rfl
 rw [hA] at hx
 have hc : 0 ≤ i ∧ i < ((xs.length - k.toNat : Nat) : Int) := ⟨h0, h1⟩
 have hr : Y P n ds R env l ⟨dd, .indexAddr t x y, ty, pos, af, g⟩ (elp (some ((⟨gb, 0, none⟩ : Addr).add (k.toNat * F.sz))) (i.toNat * j.size)) := Y.ixSome hi hk hx hy hj h0 h1
 have h := hr a w e0 hs
 rw [h]
 unfold elp
 simp only [Option.map_some]
 rw [Q117, hjs, ← Nat.add_mul, show k.toNat + i.toNat = (k + i).toNat from by omega]
theorem zero_flat (F : Fl α) (z : α) (k : Nat) {cs : Array Value} (hcs : cs.toList = F.enc z) : (Builtin.zeroCells cs k).toList = (List.replicate k z).flatMap F.enc := by
 have hsz : cs.size = F.sz := by rw [← Array.length_toList, hcs, F.len]
 unfold Builtin.zeroCells
 rw [hsz]
 simp only [Array.toList_map, Array.toList_range]
 apply List.ext_getElem?
 intro q
 have hp := F.pos
 by_cases hq : q < k * F.sz
 ·have h1 : q / F.sz < k := Nat.div_lt_of_lt_mul (by rw [Nat.mul_comm]; exact hq)
  have h2 : q % F.sz < F.sz := Nat.mod_lt _ hp
  have := Q127 F (xs := List.replicate k z) (i := q / F.sz) (x := z) (j := q % F.sz) (by simp [h1]) h2
  rw [Nat.mul_comm, Nat.div_add_mod] at this
  rw [this, ← hcs]
  simp [hq, hsz, h2]
 ·rw [List.getElem?_eq_none (by simp; omega), List.getElem?_eq_none (by rw [Q54]; simp; omega)]
theorem At.clearSuf (hg : grd os env g = some true) (f : Frt l (row F e A m c xs) l') {x : Operand} {k : Int} {z : α} {ii j : TI} (hi : ti P t = some ii) (hk : ii.k = .slice e) (hj : ti P e = some j) (hjz : j.zero = F.enc z)
 (hx : ev env x = some (.slice (sufA A c k.toNat F.sz) (m - k.toNat) (c - k.toNat))) (hk0 : 0 ≤ k) (hk1 : k ≤ (m : Int))
 (h : At n ds R env (row F e A m c (xs.take k.toNat ++ List.replicate (m - k.toNat) z) :: l') (wpList P os.toArray Q rest)) :
 At n ds R env l (wpList P os.toArray Q (⟨none, .call ⟨.builtin .clear, #[x], #[t]⟩, ty, pos, af, g⟩ :: rest)) := op_v0 hg rfl fun a w e0 hs => by
 have hs1 := hs.frt f
 have hm : xs.length = m := let ⟨_, o, _⟩ := hs1.head; Q101 o
 subst hm
 obtain ⟨xi, zv, hxi, hsz, hby, hze, hzc⟩ := (Q11 hj).info
 have hu := (Q11 hi).slice hk
 have hzr : ∀ w, (zeroValue e).run P w = .ok zv w := fun w => by simp [zeroValue, typeInfo, hxi, hze]
 by_cases hlt : k.toNat < xs.length
 ·obtain ⟨h', o, s, kk⟩ := hs1.upd
  obtain ⟨gb, cur, rfl, hgb, h3, h4, h5, h6⟩ := Q153 o (by omega)
  have hA : sufA (some ⟨gb, 0, none⟩) c k.toNat F.sz = some ⟨gb, k.toNat * F.sz, none⟩ := by
   unfold sufA; rw [if_neg (by omega)]; simp [Q113]
  rw [hA] at hx
  have hgw : w.heap[gb]? = some (.cells cur e (0, 0)) := s gb _ hgb
  have hzl : zv.cells.toList = F.enc z := by rw [← hjz, hzc]
  have hzs : (Builtin.zeroCells zv.cells (xs.length - k.toNat)).toList = (List.replicate (xs.length - k.toNat) z).flatMap F.enc := zero_flat F z _ hzl
  have hfl : ((List.replicate (xs.length - k.toNat) z).flatMap F.enc).length = (xs.length - k.toNat) * F.sz := by rw [Q54, List.length_replicate]
  have hmul : k.toNat * F.sz + (xs.length - k.toNat) * F.sz = xs.length * F.sz := by rw [← Nat.add_mul]; congr 1; omega
  have hle : xs.length * F.sz ≤ c * F.sz := Nat.mul_le_mul_right _ h3
  have hst := run_storeCells_at (P := P) gb (k.toNat * F.sz) e ((List.replicate (xs.length - k.toNat) z).flatMap F.enc) 0 cur w hgw (by rw [hfl, h5]; omega) (Q301 F _)
  rw [Nat.add_zero, hfl, hmul] at hst
  obtain ⟨q, hq⟩ : ∃ q, xs.length - k.toNat = q + 1 := ⟨xs.length - k.toNat - 1, by omega⟩
  refine ⟨.tuple #[], w.setRow gb (cur.toList.take (k.toNat * F.sz) ++ (List.replicate (xs.length - k.toNat) z).flatMap F.enc ++ cur.toList.drop (xs.length * F.sz)).toArray, _, ?_, ?_, h⟩
  ·have hrun : (Builtin.clear_ #[t] ty #[.slice (some ⟨gb, k.toNat * F.sz, none⟩) (xs.length - k.toNat) (c - k.toNat)]).run P w = .ok (.tuple #[]) (w.setRow gb (cur.toList.take (k.toNat * F.sz) ++ (List.replicate (xs.length - k.toNat) z).flatMap F.enc ++ cur.toList.drop (xs.length * F.sz)).toArray) := by
    rw [hq] at hzs hst ⊢
    simp [Builtin.clear_, run_underlying hu, hzr, hzs, hst]
   simp only [execOp, resolve, invoke, builtin, Sem.run_bind, Sem.run_pure, Result.andThen_ok, List.map_toArray, List.map_cons, List.map_nil, e0.ev hx, hrun]
  ·have hnew := setRow_heap w gb cur (cur.toList.take (k.toNat * F.sz) ++ (List.replicate (xs.length - k.toNat) z).flatMap F.enc ++ cur.toList.drop (xs.length * F.sz)).toArray e (0, 0) hgw
   have hcl5 : cur.toList.length = c * F.sz := by rw [Array.length_toList, h5]
   have htk : (cur.toList.take (k.toNat * F.sz)).length = k.toNat * F.sz := by rw [List.length_take, hcl5]; omega
   have hll : (cur.toList.take (k.toNat * F.sz) ++ (List.replicate (xs.length - k.toNat) z).flatMap F.enc ++ cur.toList.drop (xs.length * F.sz)).length = cur.size := by
    rw [List.length_append, List.length_append, List.length_drop, htk, hfl, hcl5, h5]; omega
   refine kk _ (single gb (.cells (cur.toList.take (k.toNat * F.sz) ++ (List.replicate (xs.length - k.toNat) z).flatMap F.enc ++ cur.toList.drop (xs.length * F.sz)).toArray e)) _ ?_ rfl rfl rfl (Nat.le_refl _) (fun x o' hx hn => ?_) (fun x o' hx => ?_) (fun x o' hx => ?_)
   ·have hsl : (xs.take k.toNat ++ List.replicate (xs.length - k.toNat) z).length = xs.length := by simp; omega
    refine ⟨by rw [Q54, hsl], .inr ⟨gb, _, rfl, Q226 _ _, h3, h4, by rw [List.size_toArray, hll, h5], ?_⟩⟩
    rw [List.flatMap_append]
    have hpre : (xs.take k.toNat).flatMap F.enc = cur.toList.take (k.toNat * F.sz) := by
     have e1 : xs.flatMap F.enc = (xs.take k.toNat).flatMap F.enc ++ (xs.drop k.toNat).flatMap F.enc := by rw [← List.flatMap_append, List.take_append_drop]
     have e2 : ((xs.take k.toNat).flatMap F.enc).length = k.toNat * F.sz := by rw [Q54, List.length_take]; congr 1; omega
     have e3 : cur.toList.take (k.toNat * F.sz) = (cur.toList.take (xs.length * F.sz)).take (k.toNat * F.sz) := by rw [List.take_take]; congr 1; omega
     rw [e3, h6, e1, List.take_append_of_le_length (Nat.le_of_eq e2.symm), List.take_of_length_le (Nat.le_of_eq e2)]
    rw [hpre]
    simp only [List.toList_toArray]
    rw [List.take_append_of_le_length (by rw [List.length_append, htk, hfl]; omega), List.take_of_length_le (by rw [List.length_append, htk, hfl]; omega)]
   ·rw [setRow_other w gb x _ (fun hxg => by subst hxg; rw [hgb] at hn; cases hn)]; exact hx
   ·obtain ⟨rfl, rfl⟩ := Q111 hx; exact hnew
   ·obtain ⟨rfl, rfl⟩ := Q111 hx; exact .inl ⟨_, hgb⟩
 ·have hz0 : xs.length - k.toNat = 0 := by omega
  have hsame : xs.take k.toNat ++ List.replicate (xs.length - k.toNat) z = xs := by
   rw [hz0, List.take_of_length_le (by omega)]; simp
  rw [hsame] at h
  refine ⟨.tuple #[], w, _, ?_, hs1, h⟩
  have hrun : (Builtin.clear_ #[t] ty #[.slice (sufA A c k.toNat F.sz) (xs.length - k.toNat) (c - k.toNat)]).run P w = .ok (.tuple #[]) w := by
   rw [hz0]
   cases sufA A c k.toNat F.sz <;> simp [Builtin.clear_, run_underlying hu]
  simp only [execOp, resolve, invoke, builtin, Sem.run_bind, Sem.run_pure, Result.andThen_ok, List.map_toArray, List.map_cons, List.map_nil, e0.ev hx, hrun]
end
end Go.Bw
namespace Go.Bw
open Go Go.RowKit Go.Proofs
variable {R : Res} {Fr : List HProp} {A0 A0_1 A0_2 A0_3 : Option Addr} {n0 c0 n0_1 c0_1 n0_2 c0_2 n0_3 c0_3 : Nat}
noncomputable def Q28.l1b (a0 : List Q1) (q : Int) (u : List Q1) (D p : Int) : Option (((List Q1) × Int × Int) ⊕ (((List Q1) × Int) ⊕ ((Int) ⊕ ((Unit) ⊕ ((List Q1)))))) :=
 if p < ((a0.length - q.toNat : Nat) : Int) then
 jn (
 if (0 : Int) ≤ p ∧ p < ((a0.length - q.toNat : Nat) : Int) then
 if (0 : Int) ≤ IntKind.i64.wrap (p - 1) ∧ IntKind.i64.wrap (p - 1) < ((a0.length - q.toNat : Nat) : Int) then
 if (decide ((gt u (q + p)).From = (gt u (q + IntKind.i64.wrap (p - 1))).From) && (decide ((gt u (q + p)).Action = (gt u (q + IntKind.i64.wrap (p - 1))).Action) && (decide ((gt u (q + p)).To = (gt u (q + IntKind.i64.wrap (p - 1))).To) && true))) = true then
 some (.inl (u, D))
 else
 if (0 : Int) ≤ D ∧ D < (a0.length : Int) then
 some (.inl ((st u D (⟨(gt u (q + p)).From, (gt u (q + p)).Action, (gt u (q + p)).To⟩ : Q1)), IntKind.i64.wrap (D + 1)))
 else none
 else none
 else none) (fun (s_ : (List Q1) × Int) =>
 nx (s_.1, s_.2, IntKind.i64.wrap (p + 1)))
 else
 dn (.inl (u, D))
noncomputable def Q28.l1 (a0 : List Q1) (p : Int) (q : List Q1) (u D : Int) : Option (((List Q1) × Int) ⊕ ((Int) ⊕ ((Unit) ⊕ ((List Q1))))) := iter (fun t_ : (List Q1) × Int × Int => Q28.l1b a0 p t_.1 t_.2.1 t_.2.2) (q, u, D)
noncomputable def Q28.l0b (a0 : List Q1) (p : Int) : Option ((Int) ⊕ ((Unit) ⊕ ((List Q1)))) :=
 if p < (a0.length : Int) then
 if (0 : Int) ≤ p ∧ p < (a0.length : Int) then
 if (0 : Int) ≤ IntKind.i64.wrap (p - 1) ∧ IntKind.i64.wrap (p - 1) < (a0.length : Int) then
 if (decide ((gt a0 p).From = (gt a0 (IntKind.i64.wrap (p - 1))).From) && (decide ((gt a0 p).Action = (gt a0 (IntKind.i64.wrap (p - 1))).Action) && (decide ((gt a0 p).To = (gt a0 (IntKind.i64.wrap (p - 1))).To) && true))) = true then
 if (0 : Int) ≤ p ∧ p ≤ (a0.length : Int) then
 jn (Q28.l1 a0 p a0 p 1) (fun (s_ : (List Q1) × Int) =>
 if (0 : Int) ≤ s_.2 ∧ s_.2 ≤ (a0.length : Int) then
 upL (some ((s_.1.take s_.2.toNat ++ List.replicate (a0.length - s_.2.toNat) (⟨(0 : Int), (0 : Int), (0 : Int)⟩ : Q1)).take s_.2.toNat))
 else none)
 else none
 else
 nx (IntKind.i64.wrap (p + 1))
 else none
 else none
 else
 dn (.inl ())
noncomputable def Q28.l0 (a0 : List Q1) (p : Int) : Option ((Unit) ⊕ ((List Q1))) := iter (fun t_ : Int => Q28.l0b a0 t_) p
noncomputable def Q28.f (a0 : List Q1) : Option (List Q1) :=
 if (a0.length : Int) < 2 then
 some a0
 else
 jn (Q28.l0 a0 1) (fun (_ : Unit) =>
 some a0)
theorem Q28.callee : Callee Tryz.prog 45 := ⟨_, Tryz.func45, by kernel_rfl, by kernel_rfl⟩
theorem Q28.spec {a0 : List Q1} (hn0 : a0.length = n0) {r : (List Q1)} (j : Q28.f a0 = some r) :
 Spec Tryz.prog 45 [.slice A0 n0 c0] R (row Q1.fl 35 A0 n0 c0 a0 :: Fr) (fun v l' => ∃ (a2 : Nat), v = .slice A0 a2 c0 ∧ row Q1.fl 35 A0 a2 c0 r :: Fr = l' ∧ r.length = a2) := by
 subst hn0; refine Spec.of Tryz.func45 rfl rfl ?_; unfold Q28.f at j; have j := brun j; refine sR 1 rfl (nT (At.seq (At.seq (At.region ?_)))); refine At.run 3 rfl (nT ?_); rcases bite j with ⟨a3, j⟩ | ⟨a3, j⟩
 ··refine At.condT rfl (decide_eq_true a3) ?_
   refine sR 2 rfl (nT (At.ret (At.thr ?_))); cases bret j; exact At.res (.inl rfl) rfl rfl ⟨a0.length, rfl, rfl, rfl⟩
 ··refine At.condF rfl (decide_eq_false a3) ?_
   refine At.skip (At.thn (At.seq (sR 1 rfl (nT ?_)))); refine At.block ?_; obtain ⟨d3, d4, d5, j⟩ := bjoin j; obtain ⟨a4, a5, c8⟩ := bsome j; clear j; unfold Q28.l0 at a5; obtain ⟨a6, L⟩ := Q16.1 a5; clear a5; let T1 : HProp := row Q1.fl 35 A0 a0.length c0 a0; refine At.loopJ (X := Int) (Y := Unit) (e0 := 0) (fun p => [(0, .slice A0 a0.length c0), (3, i6 p)]) (fun p => T1 :: Fr) (fun m_ => fun p => iterN (fun t_ : Int => Q28.l0b a0 t_) m_ p = some a4) a6 1 L (fun _ => [(0, .slice A0 a0.length c0)]) (fun _ => T1 :: Fr) (fun _ => d3 (.inl ()) = some r) (fun a w e hs => ⟨e.sub ⟨rfl, rfl, trivial⟩, (by exact hs)⟩) ?_ (fun d6 => ?_)
   ·rintro _ j; have j := (d4 _).symm.trans j
    ·refine At.ibx ?_; refine At.thn (sR 2 rfl (nT (At.ret ?_))); cases bret j; exact At.res (.inl rfl) rfl rfl ⟨a0.length, rfl, rfl, rfl⟩
   ·clear L a6; rintro a6 p L; obtain ⟨d7, f_, d8, hf_, j⟩ := bit L; clear L; have j : (Q28.l0b a0 p).bind _ = some a4 := j; unfold Q28.l0b at j
    ·refine At.seq (sR 4 rfl (nT ?_)); rcases bite j with ⟨a7, j⟩ | ⟨a7, j⟩
     ··refine At.condT rfl (decide_eq_true a7) ?_
       refine At.skip (At.thn (At.seq ?_)); refine At.block ?_; refine At.seq ?_; refine At.quiet (by kernel_rfl) ?_; refine At.Quiet.run 2 rfl ?_; obtain ⟨V, j⟩ := bnone j; refine At.Quiet.y (Y.ix .z rfl rfl rfl rfl rfl rfl V.1 V.2) rfl rfl rfl ?_; refine At.Quiet.y (Y.ld .z (q := 0) rfl rfl V.1 V.2 rfl rfl rfl) rfl rfl rfl ?_; refine At.Quiet.run 3 rfl ?_; obtain ⟨Z, j⟩ := bnone j; refine At.Quiet.y (Y.ix .z rfl rfl rfl rfl rfl rfl Z.1 Z.2) rfl rfl rfl ?_; refine At.Quiet.y (Y.ld .z (q := 0) rfl rfl Z.1 Z.2 rfl rfl rfl) rfl rfl rfl ?_; refine At.Quiet.y (Y.eqSt (xs := [i6 ((gt a0 p).From), i6 ((gt a0 p).Action), i6 ((gt a0 p).To)]) (ys := [i6 ((gt a0 (IntKind.i64.wrap (p - 1))).From), i6 ((gt a0 (IntKind.i64.wrap (p - 1))).Action), i6 ((gt a0 (IntKind.i64.wrap (p - 1))).To)]) rfl rfl rfl rfl (by kernel_rfl) (by kernel_rfl) (by kernel_rfl) rfl) rfl rfl rfl ?_; refine At.Quiet.nil (At.thn ?_); rcases bite j with ⟨a8, j⟩ | ⟨a8, j⟩
       ··refine At.condT rfl a8 ?_
         refine sR 2 rfl ?_; obtain ⟨G, j⟩ := bnone j; refine At.y (Y.slSuf .z rfl rfl rfl rfl rfl rfl G.1 G.2) rfl rfl rfl ?_; refine At.run 1 rfl (nT (At.seq (sR 1 rfl (At.nil ?_)))); refine At.thn ?_; refine At.block ?_; obtain ⟨d9, e1, f1, j⟩ := bjoin j; obtain ⟨a9, b4, e2⟩ := bsome j; clear j; unfold Q28.l1 at b4; obtain ⟨b5, O⟩ := Q16.1 b4; clear b4; refine At.loopJ (X := (List Q1) × Int × Int) (Y := (List Q1) × Int) (e0 := 2) (fun s_ => [(0, .slice A0 a0.length c0), (3, i6 s_.2.1), (4, .slice (sufA A0 c0 p.toNat Q1.fl.sz) (a0.length - p.toNat) (c0 - p.toNat)), (5, i6 s_.2.2)]) (fun s_ => row Q1.fl 35 A0 a0.length c0 s_.1 :: Fr) (fun m_ => fun s_ => iterN (fun t_ : (List Q1) × Int × Int => Q28.l1b a0 p t_.1 t_.2.1 t_.2.2) m_ (s_.1, s_.2.1, s_.2.2) = some a9) b5 (a0, p, 1) O (fun s_ => [(0, .slice A0 a0.length c0), (3, i6 s_.2)]) (fun s_ => row Q1.fl 35 A0 a0.length c0 s_.1 :: Fr) (fun s_ => d9 (.inl (s_.1, s_.2)) = some a4) (fun a w e hs => ⟨e.sub ⟨rfl, rfl, rfl, rfl, trivial⟩, (by exact hs)⟩) ?_ (fun e3 => ?_)
         ·rintro ⟨e4, b6⟩ j; have j := (e1 _).symm.trans j
          ·refine At.ibx ?_; refine At.thn (sR 2 rfl ?_); obtain ⟨I, j⟩ := bnone j; refine At.y (Y.slSuf .z rfl rfl rfl rfl rfl rfl I.1 I.2) rfl rfl rfl ?_; refine At.clearSuf (z := (⟨(0 : Int), (0 : Int), (0 : Int)⟩ : Q1)) rfl .z rfl rfl rfl rfl rfl I.1 I.2 ?_; refine nT (sR 2 rfl ?_); refine At.cut rfl .z rfl rfl rfl rfl rfl I.1 I.2 rfl ?_; refine At.run 1 rfl (nT (At.ret ?_)); refine At.ibr ?_; refine At.thr ?_; have j := bupL d5 c8 j; refine At.thr ?_; refine At.ibr ?_; refine At.thr ?_; cases bret j; exact At.res (.inl rfl) rfl rfl ⟨((e4.take b6.toNat ++ List.replicate (a0.length - b6.toNat) (⟨(0 : Int), (0 : Int), (0 : Int)⟩ : Q1)).take b6.toNat).length, rfl, rfl, rfl⟩
         ·clear O b5; rintro b5 ⟨D, U, u⟩ O; obtain ⟨e5, f_, e6, hf_, j⟩ := bit O; clear O; have j : (Q28.l1b a0 p D U u).bind _ = some a9 := j; unfold Q28.l1b at j
          ·refine At.seq (sR 4 rfl (nT ?_)); rcases bite j with ⟨b7, j⟩ | ⟨b7, j⟩
           ··refine At.condT rfl (decide_eq_true b7) ?_
             refine At.skip (At.thn (At.seq ?_)); obtain ⟨e7, e8, f2, j⟩ := bjoin j; refine At.join (X := (List Q1) × Int) (fun s_ => [(0, .slice A0 a0.length c0), (3, i6 s_.2), (4, .slice (sufA A0 c0 p.toNat Q1.fl.sz) (a0.length - p.toNat) (c0 - p.toNat)), (5, i6 u)]) (fun s_ => row Q1.fl 35 A0 a0.length c0 s_.1 :: Fr) (fun s_ => e7 (.inl (s_.1, s_.2)) = some a9) ?_ (fun c9 => ?_)
             ·rintro ⟨e9, f0⟩ j; have j := (e8 _).symm.trans j
              ·refine At.region (At.run 3 rfl (At.nil ?_)); have j := bnx hf_ j; exact fun a w e hs => ⟨e5, (e9, f0, IntKind.i64.wrap (u + 1)), e6, j, e.sub ⟨rfl, rfl, rfl, rfl, trivial⟩, hs⟩
             ··refine At.block ?_
               refine At.seq ?_; refine At.quiet (by kernel_rfl) ?_; refine At.Quiet.run 2 rfl ?_; obtain ⟨J, j⟩ := bnone j; have d0 : (0 : Int) ≤ (p + u) ∧ (p + u) < (a0.length : Int) := by have h1_ := G; have h2_ := J; omega
               refine At.Quiet.y (Y.ixSuf .z rfl rfl rfl rfl rfl rfl G.1 J.1 J.2) rfl rfl rfl ?_; refine At.Quiet.y (Y.ld .z (q := 0) rfl rfl d0.1 d0.2 rfl rfl rfl) rfl rfl rfl ?_; refine At.Quiet.run 3 rfl ?_; obtain ⟨b8, j⟩ := bnone j; have d1 : (0 : Int) ≤ (p + IntKind.i64.wrap (u - 1)) ∧ (p + IntKind.i64.wrap (u - 1)) < (a0.length : Int) := by have h1_ := G; have h2_ := b8; omega
               refine At.Quiet.y (Y.ixSuf .z rfl rfl rfl rfl rfl rfl G.1 b8.1 b8.2) rfl rfl rfl ?_; refine At.Quiet.y (Y.ld .z (q := 0) rfl rfl d1.1 d1.2 rfl rfl rfl) rfl rfl rfl ?_; refine At.Quiet.y (Y.neSt (xs := [i6 ((gt D (p + u)).From), i6 ((gt D (p + u)).Action), i6 ((gt D (p + u)).To)]) (ys := [i6 ((gt D (p + IntKind.i64.wrap (u - 1))).From), i6 ((gt D (p + IntKind.i64.wrap (u - 1))).Action), i6 ((gt D (p + IntKind.i64.wrap (u - 1))).To)]) rfl rfl rfl rfl (by kernel_rfl) (by kernel_rfl) (by kernel_rfl) rfl) rfl rfl rfl ?_; refine At.Quiet.nil (At.thn ?_); rcases bite j with ⟨b9, j⟩ | ⟨b9, j⟩
               ··refine At.condF rfl (nf b9) ?_
                 refine At.skip ?_; refine At.ibn ?_; refine At.thn ?_; exact fun a w e hs => c9 (D, U) j a w (e.sub ⟨rfl, rfl, rfl, rfl, trivial⟩) hs
               ··refine At.condT rfl (nt (bn b9)) ?_
                 refine sR 4 rfl ?_; have d2 : (0 : Int) ≤ (p + u) ∧ (p + u) < (a0.length : Int) := by have h1_ := G; have h2_ := J; omega
                 refine At.y (Y.ixSuf .z rfl rfl rfl rfl rfl rfl G.1 J.1 J.2) rfl rfl rfl ?_; refine At.y (Y.ld .z (q := 0) rfl rfl d2.1 d2.2 rfl rfl rfl) rfl rfl rfl ?_; obtain ⟨a1, j⟩ := bnone j; refine At.y (Y.ix .z rfl rfl rfl rfl rfl rfl a1.1 a1.2) rfl rfl rfl ?_; refine At.st rfl .z (q := 0) (z := (⟨(gt D (p + u)).From, (gt D (p + u)).Action, (gt D (p + u)).To⟩ : Q1)) rfl rfl rfl a1.1 a1.2 rfl rfl (.c (.c (.c .n))) ?_; refine nT (At.region (At.run 3 rfl (At.nil ?_))); refine At.ibn ?_; refine At.thn ?_; exact fun a w e hs => c9 ((st D U (⟨(gt D (p + u)).From, (gt D (p + u)).Action, (gt D (p + u)).To⟩ : Q1)), IntKind.i64.wrap (U + 1)) j a w (e.sub ⟨rfl, rfl, rfl, rfl, trivial⟩) hs
           ··refine At.condF rfl (decide_eq_false b7) ?_
             refine At.exit ?_; refine At.the ?_; refine At.the ?_; exact fun a w e hs => e3 (D, U) (bdn j e2) a w (e.sub ⟨rfl, rfl, trivial⟩) hs
       ··refine At.condF rfl (bn a8) ?_
         refine At.skip ?_; refine At.ibn ?_; refine At.thn (At.region (At.run 3 rfl (At.nil ?_))); have j := bnx hf_ j; exact fun a w e hs => ⟨d7, (IntKind.i64.wrap (p + 1)), d8, j, e.sub ⟨rfl, rfl, trivial⟩, hs⟩
     ··refine At.condF rfl (decide_eq_false a7) ?_
       refine At.exit ?_; refine At.the ?_; refine At.the ?_; exact fun a w e hs => d6 () (bdn j c8) a w (e.sub ⟨rfl, trivial⟩) hs

noncomputable def Q15.l2b (q : List Q2) (G : (List Int)) (u I J L O p : Int) : Option ((Int × Int × Int × Int × Int) ⊕ ((Int × Int × Int × Int) ⊕ (((List Q2) × Int) ⊕ (((List Q2)) ⊕ ((List Q2) × (List Q1) × (List Bs) × (List Int) × Int))))) :=
 if p < ((gt q u).States.length : Int) then
 if (0 : Int) ≤ p ∧ p < ((gt q u).States.length : Int) then
 if (0 : Int) ≤ gt ((gt q u).States) p ∧ gt ((gt q u).States) p < (G.length : Int) then
 (Q21.f I J L O (gt G (gt ((gt q u).States) p))).bind fun D =>
 nx (D.1, D.2.1, D.2.2.1, D.2.2.2, IntKind.i64.wrap (p + 1))
 else none
 else none
 else
 dn (.inl (I, J, L, O))
noncomputable def Q15.l2 (p : List Q2) (q : (List Int)) (u D G I J L : Int) : Option ((Int × Int × Int × Int) ⊕ (((List Q2) × Int) ⊕ (((List Q2)) ⊕ ((List Q2) × (List Q1) × (List Bs) × (List Int) × Int)))) := iter (fun t_ : Int × Int × Int × Int × Int => Q15.l2b p q u t_.1 t_.2.1 t_.2.2.1 t_.2.2.2.1 t_.2.2.2.2) (D, G, I, J, L)
noncomputable def Q15.l1b (q : List Q2) (D : (List Int)) (u : List Q2) (p : Int) : Option (((List Q2) × Int) ⊕ (((List Q2)) ⊕ ((List Q2) × (List Q1) × (List Bs) × (List Int) × Int))) :=
 if p < (q.length : Int) then
 if (0 : Int) ≤ p ∧ p < (q.length : Int) then
 jn (Q15.l2 q D p 0 0 0 0 0) (fun (s_ : Int × Int × Int × Int) =>
 (Q19.f s_.1 s_.2.1 s_.2.2.1 s_.2.2.2).bind fun G =>
 if (u.length + 1) * 40 ≤ 140737488355328 then
 nx ((u ++ [(⟨((gt q p).Name), G⟩ : Q2)]), IntKind.i64.wrap (p + 1))
 else none)
 else none
 else
 dn (.inl u)
noncomputable def Q15.l1 (p : List Q2) (q : (List Int)) (u : List Q2) (D : Int) : Option (((List Q2)) ⊕ ((List Q2) × (List Q1) × (List Bs) × (List Int) × Int)) := iter (fun t_ : (List Q2) × Int => Q15.l1b p q t_.1 t_.2) (u, D)
noncomputable def Q15.l0b (q : List Q1) (u : (List Int)) (D : List Q1) (p : Int) : Option (((List Q1) × Int) ⊕ (((List Q1)) ⊕ ((List Q2) × (List Q1) × (List Bs) × (List Int) × Int))) :=
 if p < (q.length : Int) then
 if (0 : Int) ≤ p ∧ p < (q.length : Int) then
 if (0 : Int) ≤ (gt q p).From ∧ (gt q p).From < (u.length : Int) then
 if (0 : Int) ≤ (gt q p).To ∧ (gt q p).To < (u.length : Int) then
 if (D.length + ([(⟨gt u ((gt q p).From), (gt q p).Action, gt u ((gt q p).To)⟩ : Q1)] : List Q1).length) * 24 ≤ 140737488355328 then
 nx ((D ++ ([(⟨gt u ((gt q p).From), (gt q p).Action, gt u ((gt q p).To)⟩ : Q1)] : List Q1)), IntKind.i64.wrap (p + 1))
 else none
 else none
 else none
 else none
 else
 dn (.inl D)
noncomputable def Q15.l0 (p : List Q1) (q : (List Int)) (u : List Q1) (D : Int) : Option (((List Q1)) ⊕ ((List Q2) × (List Q1) × (List Bs) × (List Int) × Int)) := iter (fun t_ : (List Q1) × Int => Q15.l0b p q t_.1 t_.2) (u, D)
noncomputable def Q15.f (G : Int) (q : List Bs) (u : List Q1) (D : List Q2) : Option ((List Q2) × (List Q1) × (List Bs) × (List Int) × Int) :=
 (Q33.f G q u D).bind fun p =>
 if (p.length : Int) = 0 then
 some (([] : List Q2), ([] : List Q1), ([] : List Bs), ([] : List Int), 0)
 else
 (Q41.f p).bind fun I =>
 (Q89.f q).bind fun J =>
 jn (Q15.l0 u p ([] : List Q1) 0) (fun (L : List Q1) =>
 (Q29.f L).bind fun O =>
 (Q28.f O).bind fun U =>
 jn (Q15.l1 D p ([] : List Q2) 0) (fun (V : List Q2) =>
 some (V, U, J, p, IntKind.i64.wrap (I + 1))))
theorem Q15.callee : Callee Tryz.prog 15 := ⟨_, Tryz.func15, by kernel_rfl, by kernel_rfl⟩
theorem Q15.spec {b8 : Int} {a9 : List Bs} {p : List Q1} {D : List Q2} (hr0_1 : RdS Fl.bs.rep R.heap A0_1 a9) (hn0_1 : a9.length = n0_1) (hc0_1 : n0_1 ≤ c0_1) (hr0_2 : RdS Q1.fl.rep R.heap A0_2 p) (hn0_2 : p.length = n0_2) (hc0_2 : n0_2 ≤ c0_2) (hr0_3 : RdS Q2.rep R.heap A0_3 D) (hn0_3 : D.length = n0_3) (hc0_3 : n0_3 ≤ c0_3) (hg0 : RdS (Fl.int .u8).rep R.heap (some ⟨0, 0, none⟩) Tryz.gtab0) {r : (List Q2) × (List Q1) × (List Bs) × (List Int) × Int} (j : Q15.f b8 a9 p D = some r) :
 Spec Tryz.prog 15 [.agg #[i6 b8, .slice A0_1 n0_1 c0_1, .slice A0_2 n0_2 c0_2, .slice A0_3 n0_3 c0_3]] R (Fr) (fun v l' => ∃ (d9 : Nat) (h5 : Option Addr) (h6 : Nat) (e1 : Nat) (h7 : Option Addr) (h8 : Nat) (e2 : Nat) (h9 : Option Addr) (k0 : Nat) (e3 : Nat) (k1 : Option Addr) (k2 : Nat), v = .tuple #[.agg #[i6 r.2.2.2.2, .slice h9 e2 k0, .slice h7 e1 h8, .slice h5 d9 h6], .slice k1 e3 k2] ∧ row Fl.bs 9 h9 e2 k0 r.2.2.1 :: row Q1.fl 35 h7 e1 h8 r.2.1 :: grow Q2.ow 37 h5 d9 h6 r.1 :: row (Fl.int .i64) 3 k1 e3 k2 r.2.2.2.1 :: Fr = l' ∧ r.1.length = d9 ∧ r.2.1.length = e1 ∧ r.2.2.1.length = e2 ∧ r.2.2.2.1.length = e3) := by
 subst hn0_1; subst hn0_2; subst hn0_3; refine Spec.of Tryz.func15 rfl rfl ?_; unfold Q15.f at j; have j := brun j; refine At.seq (At.region ?_); refine At.box rfl rfl (cs := [i6 b8, .slice A0_1 a9.length c0_1, .slice A0_2 p.length c0_2, .slice A0_3 D.length c0_3]) rfl rfl (fun b4 => ?_); refine At.alloc rfl rfl rfl (fun Z => ?_); refine At.run 1 rfl (nT (At.seq (At.region (At.y (Y.load rfl rfl (.s .z) rfl rfl rfl) rfl rfl rfl ?_)))); obtain ⟨G, n3, j⟩ := bbind j; refine At.call rfl Q33.callee rfl rfl rfl (Q33.spec hr0_1 rfl hc0_1 hr0_2 rfl hc0_2 hr0_3 rfl hc0_3 hg0 n3) ?_; rintro _ _ ⟨t7, a1, a2, rfl, rfl, rfl⟩; refine At.run 1 rfl (nT (At.seq (sR 3 rfl (At.nil ?_)))); refine At.thn ?_; rcases bite j with ⟨e4, j⟩ | ⟨e4, j⟩
 ··refine At.condT rfl (decide_eq_true e4) ?_
   refine At.seq (At.region ?_); refine At.y (Y.build (is := []) (xo := []) (vs := []) (cs := [i6 0, .slice none 0 0, .slice none 0 0, .slice none 0 0]) rfl rfl rfl rfl rfl rfl) rfl rfl rfl ?_; refine At.store rfl rfl rfl rfl (.s .z) rfl rfl rfl (.c (.c (.c (.c .n)))) ?_; refine At.run 1 rfl (nT (At.ret (At.thr ?_))); refine At.nilRow (Fl.int .i64) 3 ?_; refine At.nilRow Fl.bs 9 ?_; refine At.nilRow Q1.fl 35 ?_; refine At.nilGrow Q2.ow 37 ?_; refine At.resM (.inl rfl) rfl (RV.cell rfl rfl (.s (.s (.s (.s .z)))) rfl rfl rfl (RV.tmp rfl RV.nil)) ?_; refine At.drop (.s (.s (.s (.s .z)))) (At.drop (.s (.s (.s (.s .z)))) (At.drop (.s (.s (.s (.s .z)))) (At.f3 (At.f1 (At.f2 (At.f3 ?_)))))); cases bret j; exact fun a w e hs => ⟨_, ⟨0, none, 0, 0, none, 0, 0, none, 0, 0, none, 0, rfl, rfl, rfl, rfl, rfl, rfl⟩, hs⟩
 ··refine At.condF rfl (decide_eq_false e4) ?_
   refine At.skip (At.thn (At.seq ?_)); refine At.freeze .z fun t8 a6 a7 k3 a0 n4 => ?_; refine At.held [pc Z [i6 0, .slice none 0 0, .slice none 0 0, .slice none 0 0] 26, pc b4 [i6 b8, .slice A0_1 a9.length c0_1, .slice A0_2 p.length c0_2, .slice A0_3 D.length c0_3] 26] 9 rfl ?_; refine At.H.pw 0 rfl rfl rfl rfl rfl (.c .z (.c .z .n)) ?_; refine At.H.pw 3 rfl rfl rfl rfl rfl (.c .z (.c .z .n)) ?_; refine At.H.tw 4 rfl (Y.load rfl rfl (.s .z) rfl rfl rfl) rfl rfl rfl (.c .z (.c .z .n)) ?_; obtain ⟨O, k4, j⟩ := bbind j; obtain ⟨J, e5, j⟩ := bbind j; let T2 : HProp := pc Z [i6 0, .slice none 0 0, .slice none 0 0, .slice none 0 0] 26; let T3 : HProp := pc b4 [i6 b8, .slice A0_1 a9.length c0_1, .slice A0_2 p.length c0_2, .slice A0_3 D.length c0_3] 26; refine At.H.joinK (X := Nat × (Option Addr) × Nat) (fun s_ => [(1, bp b4), (2, bp Z), (4, .slice a1 G.length a2), (5, .pointer (some ⟨s_.1, 0, none⟩))]) (fun s_ => pt s_.1 (.cells [i6 (IntKind.i64.wrap (O + 1)), .slice s_.2.1 J.length s_.2.2, .slice none 0 0, .slice none 0 0].toArray 26) :: row Fl.bs 9 s_.2.1 J.length s_.2.2 J :: T2 :: T3 :: Fr) (fun s_ => True) ?_ (fun e6 => ?_)
   ·rintro ⟨L, a3, a4⟩ -
    ·refine At.thn (At.seq (sR 1 rfl (At.y (Y.load rfl rfl (.s (.s (.s .z))) rfl rfl rfl) rfl rfl rfl (At.run 2 rfl (At.nil ?_))))); refine At.thn ?_; refine At.block ?_; obtain ⟨n5, n6, t9, j⟩ := bjoin j; obtain ⟨k5, e7, n7⟩ := bsome j; clear j; unfold Q15.l0 at e7; obtain ⟨e8, b9⟩ := Q16.1 e7; clear e7; refine At.nilRow Q1.fl 35 ?_; let T4 : HProp := row Fl.bs 9 a3 J.length a4 J; refine At.loopJ (X := (List Q1) × Int × Nat × (Option Addr) × Nat) (Y := (List Q1) × Nat × (Option Addr) × Nat) (e0 := 0) (fun s_ => [(1, bp b4), (2, bp Z), (4, .slice a1 G.length a2), (5, bp L), (27, .slice A0_2 p.length c0_2), (28, i6 (p.length : Int)), (29, i6 s_.2.1)]) (fun s_ => row Q1.fl 35 s_.2.2.2.1 s_.2.2.1 s_.2.2.2.2 s_.1 :: pc L [i6 (IntKind.i64.wrap (O + 1)), .slice a3 J.length a4, .slice s_.2.2.2.1 s_.2.2.1 s_.2.2.2.2, .slice none 0 0] 26 :: T4 :: T2 :: T3 :: Fr) (fun m_ => fun s_ => iterN (fun t_ : (List Q1) × Int => Q15.l0b p G t_.1 t_.2) m_ (s_.1, s_.2.1) = some k5 ∧ s_.1.length = s_.2.2.1) e8 (([] : List Q1), 0, 0, none, 0) ⟨b9, rfl⟩ (fun s_ => [(1, bp b4), (2, bp Z), (4, .slice a1 G.length a2), (5, bp L)]) (fun s_ => row Q1.fl 35 s_.2.2.1 s_.2.1 s_.2.2.2 s_.1 :: pc L [i6 (IntKind.i64.wrap (O + 1)), .slice a3 J.length a4, .slice s_.2.2.1 s_.2.1 s_.2.2.2, .slice none 0 0] 26 :: T4 :: T2 :: T3 :: Fr) (fun s_ => n5 (.inl s_.1) = some r ∧ s_.1.length = s_.2.1) (fun a w e hs => ⟨e.sub ⟨rfl, rfl, rfl, rfl, rfl, rfl, rfl, trivial⟩, (by exact hs)⟩) ?_ (fun n8 => ?_)
     ·rintro ⟨n9, o0, b5, b6⟩ ⟨j, o7⟩; obtain rfl : n9.length = o0 := o7; have j := (n6 _).symm.trans j
      ·refine At.ibx ?_; refine At.thn (sR 1 rfl (At.y (Y.load rfl rfl (.s .z) rfl rfl rfl) rfl rfl rfl ?_)); obtain ⟨u0, o8, j⟩ := bbind j; refine At.call rfl Q29.callee rfl rfl rfl (Q29.spec rfl o8) ?_; rintro _ _ ⟨rfl, rfl⟩; refine nT (sR 1 rfl (At.y (Y.load rfl rfl (.s .z) rfl rfl rfl) rfl rfl rfl ?_)); refine At.rowLen .z fun o9 => ?_; obtain ⟨a8, p0, j⟩ := bbind j; refine At.call rfl Q28.callee rfl rfl rfl (Q28.spec o9 p0) ?_; rintro _ _ ⟨u1, rfl, rfl, rfl⟩; refine At.run 1 rfl ?_; refine At.store rfl rfl rfl rfl (.s .z) rfl rfl rfl (.s (.s (.c .n))) ?_; refine nT (At.seq (sR 1 rfl ?_)); refine At.y (Y.load rfl rfl (.s (.s (.s (.s .z)))) rfl rfl rfl) rfl rfl rfl ?_; refine At.run 2 rfl (nT ?_); refine At.block ?_; obtain ⟨p1, p2, u2, j⟩ := bjoin j; obtain ⟨e9, f0, p3⟩ := bsome j; clear j; unfold Q15.l1 at f0; obtain ⟨f6, c8⟩ := Q16.1 f0; clear f0; refine At.nilGrow Q2.ow 37 ?_; let T5 : HProp := row Q1.fl 35 b5 a8.length b6 a8; refine At.loopJ (X := (List Q2) × Int × Nat × (Option Addr) × Nat) (Y := (List Q2) × Nat × (Option Addr) × Nat) (e0 := 2) (fun s_ => [(2, bp Z), (4, .slice a1 G.length a2), (5, bp L), (60, .slice A0_3 D.length c0_3), (61, i6 (D.length : Int)), (62, i6 s_.2.1)]) (fun s_ => grow Q2.ow 37 s_.2.2.2.1 s_.2.2.1 s_.2.2.2.2 s_.1 :: pc L [i6 (IntKind.i64.wrap (O + 1)), .slice a3 J.length a4, .slice b5 a8.length b6, .slice s_.2.2.2.1 s_.2.2.1 s_.2.2.2.2] 26 :: T5 :: T4 :: T2 :: T3 :: Fr) (fun m_ => fun s_ => iterN (fun t_ : (List Q2) × Int => Q15.l1b D G t_.1 t_.2) m_ (s_.1, s_.2.1) = some e9 ∧ s_.1.length = s_.2.2.1) f6 (([] : List Q2), 0, 0, none, 0) ⟨c8, rfl⟩ (fun s_ => [(2, bp Z), (4, .slice a1 G.length a2), (5, bp L)]) (fun s_ => grow Q2.ow 37 s_.2.2.1 s_.2.1 s_.2.2.2 s_.1 :: pc L [i6 (IntKind.i64.wrap (O + 1)), .slice a3 J.length a4, .slice b5 a8.length b6, .slice s_.2.2.1 s_.2.1 s_.2.2.2] 26 :: T5 :: T4 :: T2 :: T3 :: Fr) (fun s_ => p1 (.inl s_.1) = some r ∧ s_.1.length = s_.2.1) (fun a w e hs => ⟨e.sub ⟨rfl, rfl, rfl, rfl, rfl, rfl, trivial⟩, (by exact hs)⟩) ?_ (fun p4 => ?_)
       ·rintro ⟨k6, p5, p6, p7⟩ ⟨j, p8⟩; obtain rfl : k6.length = p5 := p8; have j := (p2 _).symm.trans j
        ·refine At.ibx ?_; refine At.thn (At.seq (At.region (At.y (Y.load rfl rfl (.s .z) rfl rfl rfl) rfl rfl rfl (At.run 1 rfl ?_)))); refine At.store rfl rfl rfl rfl (.s (.s (.s (.s .z)))) rfl rfl rfl (.c (.c (.c (.c .n)))) ?_; refine At.run 1 rfl (nT (At.ret ?_)); refine At.thaw n4 ?_; refine At.resM (.inl rfl) rfl (RV.cell rfl rfl (.s .z) rfl rfl rfl (RV.tmp rfl RV.nil)) ?_; refine At.drop (.s .z) (At.drop (.s (.s .z)) (At.drop (.s (.s (.s (.s .z)))) (At.f1 (At.f2 (At.f3 ?_))))); cases bret j; exact fun a w e hs => ⟨_, ⟨k6.length, p6, p7, a8.length, b5, b6, J.length, a3, a4, G.length, a1, a2, rfl, rfl, rfl, rfl, rfl, rfl⟩, hs⟩
       ·clear c8 f6; rintro f6 ⟨U, I, p9, f7, f8⟩ ⟨c8, q0⟩; obtain rfl : U.length = p9 := q0; obtain ⟨q1, f_, q2, hf_, j⟩ := bit c8; clear c8; have j : (Q15.l1b D G U I).bind _ = some e9 := j; unfold Q15.l1b at j
        ·refine sR 1 rfl (nT (At.seq ?_)); rcases bite j with ⟨f9, j⟩ | ⟨f9, j⟩
         ··refine At.condT rfl (decide_eq_true f9) ?_
           refine At.skip (At.thn (At.seq ?_)); refine At.block ?_; refine At.seq (At.region ?_); obtain ⟨d0, j⟩ := bnone j; refine At.y (Y.ixRd (RdS.mono a0 hr0_3) rfl rfl rfl rfl rfl rfl rfl d0.1 d0.2) rfl rfl rfl ?_; obtain ⟨u3, q3, q4⟩ := RdS.whole (P := Tryz.prog) hr0_3 a0 rfl d0.1 d0.2; obtain ⟨_, _, rfl, rfl, ⟨k7, k8, rfl, u4, k9⟩⟩ := q3; refine At.y (q4 rfl rfl rfl rfl) rfl rfl rfl ?_; refine At.alloc rfl rfl rfl (fun g0 => ?_); refine At.store rfl rfl rfl rfl .z rfl rfl rfl (.c (.c .n)) ?_; refine nT (At.seq (At.region ?_)); refine At.alloc rfl rfl rfl (fun b7 => ?_); refine nT (At.seq (sR 1 rfl (At.y (Y.load rfl rfl (.s .z) rfl rfl rfl) rfl rfl rfl (At.run 2 rfl ?_)))); refine nT ?_; refine At.block ?_; obtain ⟨q5, q6, u5, j⟩ := bjoin j; obtain ⟨l7, g1, q7⟩ := bsome j; clear j; unfold Q15.l2 at g1; obtain ⟨g2, c9⟩ := Q16.1 g1; clear g1; let T6 : HProp := pc g0 [.string ⟨((gt D I).Name).toArray⟩, .slice k7 ((gt D I).States.length) k8] 37; let T7 : HProp := grow Q2.ow 37 f7 U.length f8 U; let T8 : HProp := pc L [i6 (IntKind.i64.wrap (O + 1)), .slice a3 J.length a4, .slice b5 a8.length b6, .slice f7 U.length f8] 26; refine At.loopJ (X := Int × Int × Int × Int × Int) (Y := Int × Int × Int × Int) (e0 := 4) (fun s_ => [(2, bp Z), (4, .slice a1 G.length a2), (5, bp L), (9, bp g0), (10, bp b7), (60, .slice A0_3 D.length c0_3), (61, i6 (D.length : Int)), (62, i6 I), (67, .slice k7 ((gt D I).States.length) k8), (68, i6 ((gt D I).States.length : Int)), (69, i6 s_.2.2.2.2)]) (fun s_ => pc b7 [.int .u64 s_.1, .int .u64 s_.2.1, .int .u64 s_.2.2.1, .int .u64 s_.2.2.2.1] 43 :: T6 :: T7 :: T8 :: T5 :: T4 :: T2 :: T3 :: Fr) (fun m_ => fun s_ => iterN (fun t_ : Int × Int × Int × Int × Int => Q15.l2b D G I t_.1 t_.2.1 t_.2.2.1 t_.2.2.2.1 t_.2.2.2.2) m_ (s_.1, s_.2.1, s_.2.2.1, s_.2.2.2.1, s_.2.2.2.2) = some l7) g2 (0, 0, 0, 0, 0) c9 (fun s_ => [(2, bp Z), (4, .slice a1 G.length a2), (5, bp L), (9, bp g0), (10, bp b7), (60, .slice A0_3 D.length c0_3), (61, i6 (D.length : Int)), (62, i6 I)]) (fun s_ => pc b7 [.int .u64 s_.1, .int .u64 s_.2.1, .int .u64 s_.2.2.1, .int .u64 s_.2.2.2] 43 :: T6 :: T7 :: T8 :: T5 :: T4 :: T2 :: T3 :: Fr) (fun s_ => q5 (.inl (s_.1, s_.2.1, s_.2.2.1, s_.2.2.2)) = some e9) (fun a w e hs => ⟨e.sub ⟨rfl, rfl, rfl, rfl, rfl, rfl, rfl, rfl, rfl, rfl, rfl, trivial⟩, (by exact hs)⟩) ?_ (fun q8 => ?_)
           ·rintro ⟨l8, l9, m0, m1⟩ j; have j := (q6 _).symm.trans j
            ·refine At.ibx ?_; refine At.thn ?_; refine At.held [pc b7 [.int .u64 l8, .int .u64 l9, .int .u64 m0, .int .u64 m1] 43, T6, T5, T4, T2, T3] 11 rfl ?_; refine At.H.pw 0 rfl rfl rfl rfl rfl (.c .z (.c .z (.c (.s (.s .z)) (.c (.s (.s .z)) (.c (.s (.s .z)) (.c (.s (.s .z)) .n)))))) ?_; refine At.H.pw 2 rfl rfl rfl rfl rfl (.c .z (.c .z (.c (.s (.s .z)) (.c (.s (.s .z)) (.c (.s (.s .z)) (.c (.s (.s .z)) .n)))))) ?_; refine At.H.tw 3 rfl (Y.load rfl rfl (.s .z) rfl rfl rfl) rfl rfl rfl (.c .z (.c .z (.c (.s (.s .z)) (.c (.s (.s .z)) (.c (.s (.s .z)) (.c (.s (.s .z)) .n)))))) ?_; refine At.H.tw 4 rfl (Y.load rfl rfl .z rfl rfl rfl) rfl rfl rfl (.c .z (.c .z (.c (.s (.s .z)) (.c (.s (.s .z)) (.c (.s (.s .z)) (.c (.s (.s .z)) .n)))))) ?_; obtain ⟨V, m2, j⟩ := bbind j; obtain ⟨g3, j⟩ := bnone j; let T9 : HProp := pc b7 [.int .u64 l8, .int .u64 l9, .int .u64 m0, .int .u64 m1] 43; refine At.H.joinK (X := (Option Addr) × Nat) (fun s_ => [(2, bp Z), (4, .slice a1 G.length a2), (5, bp L), (60, .slice A0_3 D.length c0_3), (61, i6 (D.length : Int)), (62, i6 I)]) (fun s_ => pc L [i6 (IntKind.i64.wrap (O + 1)), .slice a3 J.length a4, .slice b5 a8.length b6, .slice s_.1 ((U ++ [(⟨((gt D I).Name), V⟩ : Q2)]).length) s_.2] 26 :: grow Q2.ow 37 s_.1 ((U ++ [(⟨((gt D I).Name), V⟩ : Q2)]).length) s_.2 (U ++ [(⟨((gt D I).Name), V⟩ : Q2)]) :: T9 :: T6 :: T5 :: T4 :: T2 :: T3 :: Fr) (fun s_ => True) ?_ (fun g4 => ?_)
             ·rintro ⟨q9, r0⟩ -
              ·refine At.ibn ?_; refine At.thn (At.region (At.run 2 rfl (At.nil (At.drop (.s (.s .z)) (At.drop (.s (.s .z)) (At.f5 (At.f5 ?_))))))); refine At.f5 (At.f5 (At.f4 (At.f5 ?_))); have j := bnx hf_ j; exact fun a w e hs => ⟨q1, ((U ++ [(⟨((gt D I).Name), V⟩ : Q2)]), IntKind.i64.wrap (I + 1), (U ++ [(⟨((gt D I).Name), V⟩ : Q2)]).length, q9, r0), q2, ⟨j, rfl⟩, e.sub ⟨rfl, rfl, rfl, rfl, rfl, rfl, trivial⟩, hs⟩
             ·refine At.H.al [1, 5] (Q4 ?_ (Q4 ?_ Q6))
              ··refine At.HO.op rfl ?_
                refine At.y (Y.load rfl rfl (.s (.s (.s .z))) rfl rfl rfl) rfl rfl rfl ?_; refine At.HO.back (.c .z (.c .z (.c (.s (.s .z)) (.c (.s (.s .z)) (.c (.s (.s .z)) (.c (.s (.s .z)) .n)))))) ?_; refine At.H.al [5] (Q4 ?_ Q6)
                ··refine At.HO.op rfl ?_
                  refine At.call rfl Q19.callee rfl rfl rfl (Q19.spec (RdS.mono a0 hg0) m2) ?_; rintro _ _ ⟨u6, g5, g6, rfl, rfl, rfl⟩; refine At.HO.back (.c (.s .z) (.c (.s .z) (.c (.s (.s (.s .z))) (.c (.s (.s (.s .z))) (.c (.s (.s (.s .z))) (.c (.s (.s (.s .z))) .n)))))) ?_; refine At.H.tw 6 rfl (Y.build (is := [0, 1]) (xo := [.tmp 83, .tmp 85]) (vs := [.string ⟨((gt D I).Name).toArray⟩, .slice g5 V.length g6]) (cs := [.string ⟨((gt D I).Name).toArray⟩, .slice g5 V.length g6]) rfl rfl rfl rfl rfl rfl) rfl rfl rfl (.c (.s .z) (.c (.s .z) (.c (.s (.s (.s .z))) (.c (.s (.s (.s .z))) (.c (.s (.s (.s .z))) (.c (.s (.s (.s .z))) .n)))))) ?_; refine At.H.al [7] (Q4 ?_ Q6)
                  ··refine At.HO.op rfl ?_
                    refine At.lit rfl (xo := [.tmp 86]) (ys := ([rawOf (Q2.ow).sz [.string ⟨((gt D I).Name).toArray⟩, .slice g5 V.length g6] rfl rfl] : List (Raw (Q2.ow).sz))) (Fl.raw (Q2.ow).sz (Q2.ow).pos) rfl rfl rfl rfl rfl rfl rfl rfl rfl rfl rfl (fun u7 u9 => ?_); refine At.HO.back (.c (.s (.s .z)) (.c (.s (.s .z)) (.c (.s (.s (.s (.s .z)))) (.c (.s (.s (.s (.s .z)))) (.c (.s (.s (.s (.s .z)))) (.c (.s (.s (.s (.s .z)))) .n)))))) ?_; refine At.H.al [8] (Q4 ?_ Q6)
                    ··refine At.HO.op rfl ?_
                      refine At.f1 (At.f1 (At.f4 ?_)); refine At.appendGrow (T := Q2.ow) rfl rfl Q2.ent rfl rfl rfl rfl rfl rfl rfl rfl rfl g3 (by decide) rfl (fun r1 r2 => ?_); refine At.HO.back (.c (.s .z) (.c (.s .z) (.c (.s (.s .z)) (.c (.s (.s .z)) (.c (.s (.s .z)) (.c (.s (.s .z)) .n)))))) ?_; refine At.H.pw 9 rfl rfl rfl rfl rfl (.c (.s .z) (.c (.s .z) (.c (.s (.s .z)) (.c (.s (.s .z)) (.c (.s (.s .z)) (.c (.s (.s .z)) .n)))))) ?_; refine At.H.al [10] (Q4 ?_ Q6)
                      ··refine At.HO.op rfl ?_
                        refine At.store rfl rfl rfl rfl (.s (.s (.s .z))) rfl rfl rfl (.s (.s (.s (.c .n)))) ?_; refine At.HO.back (.c (.s (.s .z)) (.c (.s (.s .z)) (.c (.s (.s .z)) (.c (.s (.s .z)) (.c (.s (.s .z)) (.c (.s (.s .z)) .n)))))) ?_; refine At.H.done (by kernel_rfl) ?_; exact At.of (g4 (r1, r2) trivial) ⟨rfl, rfl, rfl, rfl, rfl, rfl, trivial⟩
              ··refine At.HO.op rfl ?_
                refine At.call rfl Q19.callee rfl rfl rfl (Q19.spec (RdS.mono a0 hg0) m2) ?_; rintro _ _ ⟨v0, d1, d2, rfl, rfl, rfl⟩; refine At.HO.back (.c (.s .z) (.c (.s .z) (.c (.s (.s (.s .z))) (.c (.s (.s (.s .z))) (.c (.s (.s (.s .z))) (.c (.s (.s (.s .z))) .n)))))) ?_; refine At.H.tw 6 rfl (Y.build (is := [0, 1]) (xo := [.tmp 83, .tmp 85]) (vs := [.string ⟨((gt D I).Name).toArray⟩, .slice d1 V.length d2]) (cs := [.string ⟨((gt D I).Name).toArray⟩, .slice d1 V.length d2]) rfl rfl rfl rfl rfl rfl) rfl rfl rfl (.c (.s .z) (.c (.s .z) (.c (.s (.s (.s .z))) (.c (.s (.s (.s .z))) (.c (.s (.s (.s .z))) (.c (.s (.s (.s .z))) .n)))))) ?_; refine At.H.al [1, 7] (Q4 ?_ (Q4 ?_ Q6))
                ··refine At.HO.op rfl ?_
                  refine At.y (Y.load rfl rfl (.s (.s (.s (.s .z)))) rfl rfl rfl) rfl rfl rfl ?_; refine At.HO.back (.c (.s .z) (.c (.s .z) (.c (.s (.s (.s .z))) (.c (.s (.s (.s .z))) (.c (.s (.s (.s .z))) (.c (.s (.s (.s .z))) .n)))))) ?_; refine At.H.al [7] (Q4 ?_ Q6)
                  ··refine At.HO.op rfl ?_
                    refine At.lit rfl (xo := [.tmp 86]) (ys := ([rawOf (Q2.ow).sz [.string ⟨((gt D I).Name).toArray⟩, .slice d1 V.length d2] rfl rfl] : List (Raw (Q2.ow).sz))) (Fl.raw (Q2.ow).sz (Q2.ow).pos) rfl rfl rfl rfl rfl rfl rfl rfl rfl rfl rfl (fun v1 v2 => ?_); refine At.HO.back (.c (.s (.s .z)) (.c (.s (.s .z)) (.c (.s (.s (.s (.s .z)))) (.c (.s (.s (.s (.s .z)))) (.c (.s (.s (.s (.s .z)))) (.c (.s (.s (.s (.s .z)))) .n)))))) ?_; refine At.H.al [8] (Q4 ?_ Q6)
                    ··refine At.HO.op rfl ?_
                      refine At.f1 (At.f1 (At.f4 ?_)); refine At.appendGrow (T := Q2.ow) rfl rfl Q2.ent rfl rfl rfl rfl rfl rfl rfl rfl rfl g3 (by decide) rfl (fun r3 r4 => ?_); refine At.HO.back (.c (.s .z) (.c (.s .z) (.c (.s (.s .z)) (.c (.s (.s .z)) (.c (.s (.s .z)) (.c (.s (.s .z)) .n)))))) ?_; refine At.H.pw 9 rfl rfl rfl rfl rfl (.c (.s .z) (.c (.s .z) (.c (.s (.s .z)) (.c (.s (.s .z)) (.c (.s (.s .z)) (.c (.s (.s .z)) .n)))))) ?_; refine At.H.al [10] (Q4 ?_ Q6)
                      ··refine At.HO.op rfl ?_
                        refine At.store rfl rfl rfl rfl (.s (.s (.s .z))) rfl rfl rfl (.s (.s (.s (.c .n)))) ?_; refine At.HO.back (.c (.s (.s .z)) (.c (.s (.s .z)) (.c (.s (.s .z)) (.c (.s (.s .z)) (.c (.s (.s .z)) (.c (.s (.s .z)) .n)))))) ?_; refine At.H.done (by kernel_rfl) ?_; exact At.of (g4 (r3, r4) trivial) ⟨rfl, rfl, rfl, rfl, rfl, rfl, trivial⟩
                ··refine At.HO.op rfl ?_
                  refine At.lit rfl (xo := [.tmp 86]) (ys := ([rawOf (Q2.ow).sz [.string ⟨((gt D I).Name).toArray⟩, .slice d1 V.length d2] rfl rfl] : List (Raw (Q2.ow).sz))) (Fl.raw (Q2.ow).sz (Q2.ow).pos) rfl rfl rfl rfl rfl rfl rfl rfl rfl rfl rfl (fun v3 v4 => ?_); refine At.HO.back (.c (.s (.s .z)) (.c (.s (.s .z)) (.c (.s (.s (.s (.s .z)))) (.c (.s (.s (.s (.s .z)))) (.c (.s (.s (.s (.s .z)))) (.c (.s (.s (.s (.s .z)))) .n)))))) ?_; refine At.H.al [1] (Q4 ?_ Q6)
                  ··refine At.HO.op rfl ?_
                    refine At.y (Y.load rfl rfl (.s (.s (.s (.s (.s .z))))) rfl rfl rfl) rfl rfl rfl ?_; refine At.HO.back (.c (.s (.s .z)) (.c (.s (.s .z)) (.c (.s (.s (.s (.s .z)))) (.c (.s (.s (.s (.s .z)))) (.c (.s (.s (.s (.s .z)))) (.c (.s (.s (.s (.s .z)))) .n)))))) ?_; refine At.H.al [8] (Q4 ?_ Q6)
                    ··refine At.HO.op rfl ?_
                      refine At.f1 (At.f1 (At.f4 ?_)); refine At.appendGrow (T := Q2.ow) rfl rfl Q2.ent rfl rfl rfl rfl rfl rfl rfl rfl rfl g3 (by decide) rfl (fun r5 r6 => ?_); refine At.HO.back (.c (.s .z) (.c (.s .z) (.c (.s (.s .z)) (.c (.s (.s .z)) (.c (.s (.s .z)) (.c (.s (.s .z)) .n)))))) ?_; refine At.H.pw 9 rfl rfl rfl rfl rfl (.c (.s .z) (.c (.s .z) (.c (.s (.s .z)) (.c (.s (.s .z)) (.c (.s (.s .z)) (.c (.s (.s .z)) .n)))))) ?_; refine At.H.al [10] (Q4 ?_ Q6)
                      ··refine At.HO.op rfl ?_
                        refine At.store rfl rfl rfl rfl (.s (.s (.s .z))) rfl rfl rfl (.s (.s (.s (.c .n)))) ?_; refine At.HO.back (.c (.s (.s .z)) (.c (.s (.s .z)) (.c (.s (.s .z)) (.c (.s (.s .z)) (.c (.s (.s .z)) (.c (.s (.s .z)) .n)))))) ?_; refine At.H.done (by kernel_rfl) ?_; exact At.of (g4 (r5, r6) trivial) ⟨rfl, rfl, rfl, rfl, rfl, rfl, trivial⟩
           ·clear c9 g2; rintro g2 ⟨m3, m4, m5, m6, m7⟩ c9; obtain ⟨r7, f_, r8, hf_, j⟩ := bit c9; clear c9; have j : (Q15.l2b D G I m3 m4 m5 m6 m7).bind _ = some l7 := j; unfold Q15.l2b at j
            ·refine sR 1 rfl (nT (At.seq ?_)); rcases bite j with ⟨g7, j⟩ | ⟨g7, j⟩
             ··refine At.condT rfl (decide_eq_true g7) ?_
               refine At.skip (At.thn (At.seq ?_)); refine At.block ?_; refine At.seq (At.region ?_); obtain ⟨d3, j⟩ := bnone j; refine At.y (Y.ixRd (RdS.mono a0 k9) rfl rfl rfl rfl rfl rfl rfl d3.1 d3.2) rfl rfl rfl (At.y (Y.ldFl (RdS.mono a0 k9) rfl (q := 0) rfl rfl d3.1 d3.2 rfl rfl rfl) rfl rfl rfl (At.run 1 rfl (nT ?_))); refine At.held [T6, T7, T8, T5, T4, T2, T3] 7 rfl ?_; refine At.H.pw 1 rfl rfl rfl rfl rfl (.c (.s .z) (.c (.s .z) (.c (.s .z) (.c (.s .z) (.c (.s .z) (.c (.s .z) (.c (.s .z) .n))))))) ?_; refine At.H.pw 2 rfl rfl rfl rfl rfl (.c (.s .z) (.c (.s .z) (.c (.s .z) (.c (.s .z) (.c (.s .z) (.c (.s .z) (.c (.s .z) .n))))))) ?_; obtain ⟨d4, j⟩ := bnone j; refine At.H.tw 3 rfl (Y.ixRd a6 a7 rfl rfl rfl rfl rfl rfl d4.1 d4.2) rfl rfl rfl (.c (.s .z) (.c (.s .z) (.c (.s .z) (.c (.s .z) (.c (.s .z) (.c (.s .z) (.c (.s .z) .n))))))) ?_; refine At.H.tw 4 rfl (Y.ldFl a6 a7 (q := 0) rfl rfl d4.1 d4.2 rfl rfl rfl) rfl rfl rfl (.c (.s .z) (.c (.s .z) (.c (.s .z) (.c (.s .z) (.c (.s .z) (.c (.s .z) (.c (.s .z) .n))))))) ?_; refine At.H.al [0] (Q4 ?_ Q6)
               ··refine At.HO.op rfl ?_
                 refine At.y (Y.load rfl rfl .z rfl rfl rfl) rfl rfl rfl ?_; refine At.HO.back (.c (.s .z) (.c (.s .z) (.c (.s .z) (.c (.s .z) (.c (.s .z) (.c (.s .z) (.c (.s .z) .n))))))) ?_; refine At.H.al [5] (Q4 ?_ Q6)
                 ··refine At.HO.op rfl ?_
                   obtain ⟨d5, r9, j⟩ := bbind j; refine At.call rfl Q21.callee rfl rfl rfl (Q21.spec r9) ?_; rintro _ _ ⟨rfl, rfl⟩; refine At.HO.back (.c (.s .z) (.c (.s .z) (.c (.s .z) (.c (.s .z) (.c (.s .z) (.c (.s .z) (.c (.s .z) .n))))))) ?_; refine At.H.al [6] (Q4 ?_ Q6)
                   ··refine At.HO.op rfl ?_
                     refine At.store rfl rfl rfl rfl .z rfl rfl rfl (.c (.c (.c (.c .n)))) ?_; refine At.HO.back (.c (.s .z) (.c (.s .z) (.c (.s .z) (.c (.s .z) (.c (.s .z) (.c (.s .z) (.c (.s .z) .n))))))) ?_; refine At.H.done (by kernel_rfl) ?_; refine At.ibn ?_; refine At.thn (At.region (At.run 2 rfl (At.nil ?_))); have j := bnx hf_ j; exact fun a w e hs => ⟨r7, (d5.1, d5.2.1, d5.2.2.1, d5.2.2.2, IntKind.i64.wrap (m7 + 1)), r8, j, e.sub ⟨rfl, rfl, rfl, rfl, rfl, rfl, rfl, rfl, rfl, rfl, rfl, trivial⟩, hs⟩
             ··refine At.condF rfl (decide_eq_false g7) ?_
               refine At.exit ?_; refine At.the ?_; refine At.the ?_; exact fun a w e hs => q8 (m3, m4, m5, m6) (bdn j q7) a w (e.sub ⟨rfl, rfl, rfl, rfl, rfl, rfl, rfl, rfl, trivial⟩) hs
         ··refine At.condF rfl (decide_eq_false f9) ?_
           refine At.exit ?_; refine At.the ?_; refine At.the ?_; exact fun a w e hs => p4 (U, U.length, f7, f8) ⟨(bdn j p3), rfl⟩ a w (e.sub ⟨rfl, rfl, rfl, trivial⟩) hs
     ·clear b9 e8; rintro e8 ⟨a5, u, s0, s1, s2⟩ ⟨b9, s3⟩; obtain rfl : a5.length = s0 := s3; obtain ⟨s4, f_, s5, hf_, j⟩ := bit b9; clear b9; have j : (Q15.l0b p G a5 u).bind _ = some k5 := j; unfold Q15.l0b at j
      ·refine sR 1 rfl (nT (At.seq ?_)); rcases bite j with ⟨g8, j⟩ | ⟨g8, j⟩
       ··refine At.condT rfl (decide_eq_true g8) ?_
         refine At.skip (At.thn (At.seq ?_)); refine At.block ?_; refine At.seq (At.region ?_); obtain ⟨d6, j⟩ := bnone j; refine At.y (Y.ixRd (RdS.mono a0 hr0_2) rfl rfl rfl rfl rfl rfl rfl d6.1 d6.2) rfl rfl rfl (At.y (Y.ldFl (RdS.mono a0 hr0_2) rfl (q := 0) rfl rfl d6.1 d6.2 rfl rfl rfl) rfl rfl rfl ?_); refine At.alloc rfl rfl rfl (fun m8 => ?_); refine At.store rfl rfl rfl rfl .z rfl rfl rfl (.c (.c (.c .n))) ?_; refine nT ?_; refine At.held [pc m8 [i6 ((gt p u).From), i6 ((gt p u).Action), i6 ((gt p u).To)] 35, T4, T2, T3] 19 rfl ?_; refine At.H.pw 0 rfl rfl rfl rfl rfl (.c .z (.c (.s (.s .z)) (.c (.s (.s .z)) (.c (.s (.s .z)) .n)))) ?_; refine At.H.pw 2 rfl rfl rfl rfl rfl (.c .z (.c (.s (.s .z)) (.c (.s (.s .z)) (.c (.s (.s .z)) .n)))) ?_; refine At.H.pw 3 rfl rfl rfl rfl rfl (.c .z (.c (.s (.s .z)) (.c (.s (.s .z)) (.c (.s (.s .z)) .n)))) ?_; refine At.H.tw 4 rfl (Y.load rfl rfl .z rfl rfl rfl) rfl rfl rfl (.c .z (.c (.s (.s .z)) (.c (.s (.s .z)) (.c (.s (.s .z)) .n)))) ?_; obtain ⟨d7, j⟩ := bnone j; refine At.H.tw 5 rfl (Y.ixRd a6 a7 rfl rfl rfl rfl rfl rfl d7.1 d7.2) rfl rfl rfl (.c .z (.c (.s (.s .z)) (.c (.s (.s .z)) (.c (.s (.s .z)) .n)))) ?_; refine At.H.tw 6 rfl (Y.ldFl a6 a7 (q := 0) rfl rfl d7.1 d7.2 rfl rfl rfl) rfl rfl rfl (.c .z (.c (.s (.s .z)) (.c (.s (.s .z)) (.c (.s (.s .z)) .n)))) ?_; refine At.H.pw 7 rfl rfl rfl rfl rfl (.c .z (.c (.s (.s .z)) (.c (.s (.s .z)) (.c (.s (.s .z)) .n)))) ?_; refine At.H.tw 8 rfl (Y.load rfl rfl .z rfl rfl rfl) rfl rfl rfl (.c .z (.c (.s (.s .z)) (.c (.s (.s .z)) (.c (.s (.s .z)) .n)))) ?_; refine At.H.pw 9 rfl rfl rfl rfl rfl (.c .z (.c (.s (.s .z)) (.c (.s (.s .z)) (.c (.s (.s .z)) .n)))) ?_; refine At.H.pw 10 rfl rfl rfl rfl rfl (.c .z (.c (.s (.s .z)) (.c (.s (.s .z)) (.c (.s (.s .z)) .n)))) ?_; refine At.H.tw 11 rfl (Y.load rfl rfl .z rfl rfl rfl) rfl rfl rfl (.c .z (.c (.s (.s .z)) (.c (.s (.s .z)) (.c (.s (.s .z)) .n)))) ?_; obtain ⟨d8, j⟩ := bnone j; refine At.H.tw 12 rfl (Y.ixRd a6 a7 rfl rfl rfl rfl rfl rfl d8.1 d8.2) rfl rfl rfl (.c .z (.c (.s (.s .z)) (.c (.s (.s .z)) (.c (.s (.s .z)) .n)))) ?_; refine At.H.tw 13 rfl (Y.ldFl a6 a7 (q := 0) rfl rfl d8.1 d8.2 rfl rfl rfl) rfl rfl rfl (.c .z (.c (.s (.s .z)) (.c (.s (.s .z)) (.c (.s (.s .z)) .n)))) ?_; refine At.H.tw 14 rfl (Y.build (is := [0, 1, 2]) (xo := [.tmp 39, .tmp 41, .tmp 46]) (vs := [i6 (gt G ((gt p u).From)), i6 ((gt p u).Action), i6 (gt G ((gt p u).To))]) (cs := [i6 (gt G ((gt p u).From)), i6 ((gt p u).Action), i6 (gt G ((gt p u).To))]) rfl rfl rfl rfl rfl rfl) rfl rfl rfl (.c .z (.c (.s (.s .z)) (.c (.s (.s .z)) (.c (.s (.s .z)) .n)))) ?_; obtain ⟨m9, j⟩ := bnone j; let s6 : HProp := pc m8 [i6 ((gt p u).From), i6 ((gt p u).Action), i6 ((gt p u).To)] 35; refine At.H.joinK (X := (Option Addr) × Nat) (fun s_ => [(1, bp b4), (2, bp Z), (4, .slice a1 G.length a2), (5, bp L), (27, .slice A0_2 p.length c0_2), (28, i6 (p.length : Int)), (29, i6 u)]) (fun s_ => pc L [i6 (IntKind.i64.wrap (O + 1)), .slice a3 J.length a4, .slice s_.1 ((a5 ++ ([(⟨gt G ((gt p u).From), (gt p u).Action, gt G ((gt p u).To)⟩ : Q1)] : List Q1)).length) s_.2, .slice none 0 0] 26 :: row Q1.fl 35 s_.1 ((a5 ++ ([(⟨gt G ((gt p u).From), (gt p u).Action, gt G ((gt p u).To)⟩ : Q1)] : List Q1)).length) s_.2 (a5 ++ ([(⟨gt G ((gt p u).From), (gt p u).Action, gt G ((gt p u).To)⟩ : Q1)] : List Q1)) :: s6 :: T4 :: T2 :: T3 :: Fr) (fun s_ => True) ?_ (fun n2 => ?_)
         ·rintro ⟨s7, s8⟩ -
          ·refine At.ibn ?_; refine At.thn (At.region (At.run 2 rfl (At.nil (At.drop (.s (.s .z)) (At.f4 (At.f4 (At.f4 ?_))))))); refine At.f3 (At.f4 ?_); have j := bnx hf_ j; exact fun a w e hs => ⟨s4, ((a5 ++ ([(⟨gt G ((gt p u).From), (gt p u).Action, gt G ((gt p u).To)⟩ : Q1)] : List Q1)), IntKind.i64.wrap (u + 1), (a5 ++ ([(⟨gt G ((gt p u).From), (gt p u).Action, gt G ((gt p u).To)⟩ : Q1)] : List Q1)).length, s7, s8), s5, ⟨j, rfl⟩, e.sub ⟨rfl, rfl, rfl, rfl, rfl, rfl, rfl, trivial⟩, hs⟩
         ·refine At.H.al [1, 15] (Q4 ?_ (Q4 ?_ Q6))
          ··refine At.HO.op rfl ?_
            refine At.y (Y.load rfl rfl (.s (.s .z)) rfl rfl rfl) rfl rfl rfl ?_; refine At.HO.back (.c .z (.c (.s (.s .z)) (.c (.s (.s .z)) (.c (.s (.s .z)) .n)))) ?_; refine At.H.al [15] (Q4 ?_ Q6)
            ··refine At.HO.op rfl ?_
              refine At.lit rfl (xo := [.tmp 47]) (ys := ([(⟨gt G ((gt p u).From), (gt p u).Action, gt G ((gt p u).To)⟩ : Q1)] : List Q1)) Q1.fl rfl rfl rfl rfl rfl rfl rfl rfl rfl rfl rfl (fun v5 v6 => ?_); refine At.HO.back (.c (.s .z) (.c (.s (.s (.s .z))) (.c (.s (.s (.s .z))) (.c (.s (.s (.s .z))) .n)))) ?_; refine At.H.al [16] (Q4 ?_ Q6)
              ··refine At.HO.op rfl ?_
                refine At.append rfl (.s (.s .z)) (Src.own .z (by simp)) rfl rfl rfl rfl rfl rfl rfl rfl m9 (by decide) rfl (fun s9 t0 => ?_); refine At.drop (.s .z) ?_; refine At.HO.back (.c (.s .z) (.c (.s (.s .z)) (.c (.s (.s .z)) (.c (.s (.s .z)) .n)))) ?_; refine At.H.pw 17 rfl rfl rfl rfl rfl (.c (.s .z) (.c (.s (.s .z)) (.c (.s (.s .z)) (.c (.s (.s .z)) .n)))) ?_; refine At.H.al [18] (Q4 ?_ Q6)
                ··refine At.HO.op rfl ?_
                  refine At.store rfl rfl rfl rfl (.s (.s .z)) rfl rfl rfl (.s (.s (.c .n))) ?_; refine At.HO.back (.c (.s (.s .z)) (.c (.s (.s .z)) (.c (.s (.s .z)) (.c (.s (.s .z)) .n)))) ?_; refine At.H.done (by kernel_rfl) ?_; exact At.of (n2 (s9, t0) trivial) ⟨rfl, rfl, rfl, rfl, rfl, rfl, rfl, trivial⟩
          ··refine At.HO.op rfl ?_
            refine At.lit rfl (xo := [.tmp 47]) (ys := ([(⟨gt G ((gt p u).From), (gt p u).Action, gt G ((gt p u).To)⟩ : Q1)] : List Q1)) Q1.fl rfl rfl rfl rfl rfl rfl rfl rfl rfl rfl rfl (fun v7 v8 => ?_); refine At.HO.back (.c (.s .z) (.c (.s (.s (.s .z))) (.c (.s (.s (.s .z))) (.c (.s (.s (.s .z))) .n)))) ?_; refine At.H.al [1] (Q4 ?_ Q6)
            ··refine At.HO.op rfl ?_
              refine At.y (Y.load rfl rfl (.s (.s (.s .z))) rfl rfl rfl) rfl rfl rfl ?_; refine At.HO.back (.c (.s .z) (.c (.s (.s (.s .z))) (.c (.s (.s (.s .z))) (.c (.s (.s (.s .z))) .n)))) ?_; refine At.H.al [16] (Q4 ?_ Q6)
              ··refine At.HO.op rfl ?_
                refine At.append rfl (.s (.s .z)) (Src.own .z (by simp)) rfl rfl rfl rfl rfl rfl rfl rfl m9 (by decide) rfl (fun t1 t3 => ?_); refine At.drop (.s .z) ?_; refine At.HO.back (.c (.s .z) (.c (.s (.s .z)) (.c (.s (.s .z)) (.c (.s (.s .z)) .n)))) ?_; refine At.H.pw 17 rfl rfl rfl rfl rfl (.c (.s .z) (.c (.s (.s .z)) (.c (.s (.s .z)) (.c (.s (.s .z)) .n)))) ?_; refine At.H.al [18] (Q4 ?_ Q6)
                ··refine At.HO.op rfl ?_
                  refine At.store rfl rfl rfl rfl (.s (.s .z)) rfl rfl rfl (.s (.s (.c .n))) ?_; refine At.HO.back (.c (.s (.s .z)) (.c (.s (.s .z)) (.c (.s (.s .z)) (.c (.s (.s .z)) .n)))) ?_; refine At.H.done (by kernel_rfl) ?_; exact At.of (n2 (t1, t3) trivial) ⟨rfl, rfl, rfl, rfl, rfl, rfl, rfl, trivial⟩
       ··refine At.condF rfl (decide_eq_false g8) ?_
         refine At.exit ?_; refine At.the ?_; refine At.the ?_; exact fun a w e hs => n8 (a5, a5.length, s1, s2) ⟨(bdn j n7), rfl⟩ a w (e.sub ⟨rfl, rfl, rfl, rfl, trivial⟩) hs
   ·refine At.H.al [1, 7] (Q4 ?_ (Q4 ?_ Q6))
    ··refine At.HO.op rfl ?_
      refine At.call rfl Q41.callee rfl rfl rfl (Q41.spec a6 a7 k3 k4) ?_; rintro _ _ ⟨rfl, rfl⟩; refine At.HO.back (.c .z (.c .z .n)) ?_; refine At.H.pw 2 rfl rfl rfl rfl rfl (.c .z (.c .z .n)) ?_; refine At.H.al [5, 7] (Q4 ?_ (Q4 ?_ Q6))
      ··refine At.HO.op rfl ?_
        refine At.call rfl Q89.callee rfl rfl rfl (Q89.spec (RdS.mono a0 hr0_1) rfl hc0_1 e5) ?_; rintro _ _ ⟨g9, h0, rfl, rfl⟩; refine At.HO.back (.c (.s .z) (.c (.s .z) .n)) ?_; refine At.H.tw 6 rfl (Y.build (is := [0, 1]) (xo := [.tmp 21, .tmp 24]) (vs := [i6 (IntKind.i64.wrap (O + 1)), .slice g9 J.length h0]) (cs := [i6 (IntKind.i64.wrap (O + 1)), .slice g9 J.length h0, .slice none 0 0, .slice none 0 0]) rfl rfl rfl rfl rfl rfl) rfl rfl rfl (.c (.s .z) (.c (.s .z) .n)) ?_; refine At.H.al [7] (Q4 ?_ Q6)
        ··refine At.HO.op rfl ?_
          refine At.alloc rfl rfl rfl (fun t4 => ?_); refine At.HO.back (.c (.s (.s .z)) (.c (.s (.s .z)) .n)) ?_; refine At.H.al [8] (Q4 ?_ Q6)
          ··refine At.HO.op rfl ?_
            refine At.store rfl rfl rfl rfl .z rfl rfl rfl (.c (.c (.c (.c .n)))) ?_; refine At.HO.back (.c (.s (.s .z)) (.c (.s (.s .z)) .n)) ?_; refine At.H.done (by kernel_rfl) ?_; exact At.of (e6 (t4, g9, h0) trivial) ⟨rfl, rfl, rfl, rfl, trivial⟩
      ··refine At.HO.op rfl ?_
        refine At.alloc rfl rfl rfl (fun t5 => ?_); refine At.HO.back (.c (.s .z) (.c (.s .z) .n)) ?_; refine At.H.al [5] (Q4 ?_ Q6)
        ··refine At.HO.op rfl ?_
          refine At.call rfl Q89.callee rfl rfl rfl (Q89.spec (RdS.mono a0 hr0_1) rfl hc0_1 e5) ?_; rintro _ _ ⟨h1, h2, rfl, rfl⟩; refine At.HO.back (.c (.s (.s .z)) (.c (.s (.s .z)) .n)) ?_; refine At.H.tw 6 rfl (Y.build (is := [0, 1]) (xo := [.tmp 21, .tmp 24]) (vs := [i6 (IntKind.i64.wrap (O + 1)), .slice h1 J.length h2]) (cs := [i6 (IntKind.i64.wrap (O + 1)), .slice h1 J.length h2, .slice none 0 0, .slice none 0 0]) rfl rfl rfl rfl rfl rfl) rfl rfl rfl (.c (.s (.s .z)) (.c (.s (.s .z)) .n)) ?_; refine At.H.al [8] (Q4 ?_ Q6)
          ··refine At.HO.op rfl ?_
            refine At.store rfl rfl rfl rfl (.s .z) rfl rfl rfl (.c (.c (.c (.c .n)))) ?_; refine At.HO.back (.c (.s (.s .z)) (.c (.s (.s .z)) .n)) ?_; refine At.H.done (by kernel_rfl) ?_; exact At.of (e6 (t5, h1, h2) trivial) ⟨rfl, rfl, rfl, rfl, trivial⟩
    ··refine At.HO.op rfl ?_
      refine At.alloc rfl rfl rfl (fun t6 => ?_); refine At.HO.back (.c (.s .z) (.c (.s .z) .n)) ?_; refine At.H.al [1] (Q4 ?_ Q6)
      ··refine At.HO.op rfl ?_
        refine At.call rfl Q41.callee rfl rfl rfl (Q41.spec a6 a7 k3 k4) ?_; rintro _ _ ⟨rfl, rfl⟩; refine At.HO.back (.c (.s .z) (.c (.s .z) .n)) ?_; refine At.H.pw 2 rfl rfl rfl rfl rfl (.c (.s .z) (.c (.s .z) .n)) ?_; refine At.H.al [5] (Q4 ?_ Q6)
        ··refine At.HO.op rfl ?_
          refine At.call rfl Q89.callee rfl rfl rfl (Q89.spec (RdS.mono a0 hr0_1) rfl hc0_1 e5) ?_; rintro _ _ ⟨h3, h4, rfl, rfl⟩; refine At.HO.back (.c (.s (.s .z)) (.c (.s (.s .z)) .n)) ?_; refine At.H.tw 6 rfl (Y.build (is := [0, 1]) (xo := [.tmp 21, .tmp 24]) (vs := [i6 (IntKind.i64.wrap (O + 1)), .slice h3 J.length h4]) (cs := [i6 (IntKind.i64.wrap (O + 1)), .slice h3 J.length h4, .slice none 0 0, .slice none 0 0]) rfl rfl rfl rfl rfl rfl) rfl rfl rfl (.c (.s (.s .z)) (.c (.s (.s .z)) .n)) ?_; refine At.H.al [8] (Q4 ?_ Q6)
          ··refine At.HO.op rfl ?_
            refine At.store rfl rfl rfl rfl (.s .z) rfl rfl rfl (.c (.c (.c (.c .n)))) ?_; refine At.HO.back (.c (.s (.s .z)) (.c (.s (.s .z)) .n)) ?_; refine At.H.done (by kernel_rfl) ?_; exact At.of (e6 (t6, h3, h4) trivial) ⟨rfl, rfl, rfl, rfl, trivial⟩

end Go.Bw
namespace Go.Bw
open Go Go.RowKit

def Wd (v : BitVec 64) : Int := (v.toNat : Int)
theorem Wd.lt (v : BitVec 64) : 0 ≤ Wd v ∧ Wd v < 18446744073709551616 := by
 unfold Wd
 have := v.isLt
 omega
theorem wrapu {x : Int} (h0 : 0 ≤ x) (h1 : x < 18446744073709551616) : IntKind.u64.wrap x = x := by
 simp [IntKind.wrap, IntKind.bits, IntKind.signed]
 omega
theorem Q132 (v : BitVec 64) : BitVec.ofInt 64 (Wd v) = v := by
 unfold Wd
 apply BitVec.eq_of_toNat_eq
 simp
theorem Wd.inj {u v : BitVec 64} (h : Wd u = Wd v) : u = v := by rw [← Q132 u, h, Q132]
theorem Q220 (v : BitVec 64) : IntKind.u64.wrap (v.toNat : Int) = Wd v := wrapu (Wd.lt v).1 (Wd.lt v).2
theorem bor_wd (u v : BitVec 64) : bor .u64 (Wd u) (Wd v) = Wd (u ||| v) := by
 show IntKind.u64.wrap ((BitVec.ofInt 64 (Wd u) ||| BitVec.ofInt 64 (Wd v)).toNat : Int) = _
 rw [Q132, Q132, Q220]
theorem Q154 (u v : BitVec 64) : band .u64 (Wd u) (Wd v) = Wd (u &&& v) := by
 show IntKind.u64.wrap ((BitVec.ofInt 64 (Wd u) &&& BitVec.ofInt 64 (Wd v)).toNat : Int) = _
 rw [Q132, Q132, Q220]
theorem Q312 (u v : BitVec 64) : bandnot .u64 (Wd u) (Wd v) = Wd (u &&& ~~~ v) := by
 show IntKind.u64.wrap ((BitVec.ofInt 64 (Wd u) &&& ~~~ BitVec.ofInt 64 (Wd v)).toNat : Int) = _
 rw [Q132, Q132, Q220]
theorem shl_one {s : Int} (h0 : 0 ≤ s) (h1 : s < 64) : Bw.shl .u64 1 s = Wd (BitVec.twoPow 64 s.toNat) := by
 have hs : min s.toNat IntKind.u64.bits = s.toNat := Nat.min_eq_left (show s.toNat ≤ 64 by omega)
 have hp : 2 ^ s.toNat < 2 ^ 64 := Nat.pow_lt_pow_right (by decide) (by omega)
 unfold Bw.shl Wd
 have e : (2 : Int) ^ s.toNat = ((2 ^ s.toNat : Nat) : Int) := by rw [Int.natCast_pow]; rfl
 rw [hs, Int.one_mul, BitVec.toNat_twoPow, Nat.mod_eq_of_lt hp, e]
 have h2 : (2 : Nat) ^ 64 = 18446744073709551616 := by rfl
 rw [h2] at hp
 generalize (2 : Nat) ^ s.toNat = q at hp
 exact wrapu (by omega) (by omega)
theorem shr6 {n : Int} (h0 : 0 ≤ n) : Bw.shr .i64 n 6 = n / 64 := by
 show n.fdiv (2 ^ 6) = n / 64
 rw [Int.fdiv_eq_ediv_of_nonneg _ (by decide)]
 rfl
theorem band63 {n : Int} (h0 : 0 ≤ n) (h1 : n ≤ 9223372036854775807) : band .i64 n 63 = n % 64 := by
 show IntKind.i64.wrap ((BitVec.ofInt 64 n &&& BitVec.ofInt 64 63).toNat : Int) = _
 have e1 : (BitVec.ofInt 64 n).toNat = n.toNat := by rw [BitVec.toNat_ofInt]; omega
 have e2 : (BitVec.ofInt 64 63).toNat = 2 ^ 6 - 1 := by rfl
 rw [BitVec.toNat_and, e1, e2, Nat.and_two_pow_sub_one_eq_mod, wrap64 (by omega) (by omega)]
 omega
structure W4 where
 a : BitVec 64
 b : BitVec 64
 c : BitVec 64
 d : BitVec 64
def W4.sel (u : W4) (k : Int) : BitVec 64 := if k = 0 then u.a else if k = 1 then u.b else if k = 2 then u.c else u.d
def W4.has (u : W4) (n : Int) : Bool := (u.sel (n / 64)).getLsbD (n % 64).toNat
def W4.Rep (u : W4) (S : Int → Prop) : Prop := ∀ n, 0 ≤ n → n < 256 → (u.has n = true ↔ S n)
def W4.z : W4 := ⟨0#64, 0#64, 0#64, 0#64⟩
theorem W4.z_rep : W4.z.Rep (fun _ => False) := fun n h0 h1 => by
 unfold W4.has W4.sel W4.z
 dsimp only
 split
 ·simp
 ·split
  ·simp
  ·split <;> simp
theorem W4.ext4 {u v : W4} (h : ∀ n, 0 ≤ n → n < 256 → u.has n = v.has n) : u = v := by
 have key : ∀ k : Int, 0 ≤ k → k < 4 → u.sel k = v.sel k := fun k h0 h1 => by
  apply BitVec.eq_of_getLsbD_eq
  intro i hi
  have := h (64 * k + i) (by omega) (by omega)
  unfold W4.has at this
  rwa [show (64 * k + (i : Int)) / 64 = k from by omega, show ((64 * k + (i : Int)) % 64).toNat = i from by omega] at this
 have k0 := key 0 (by decide) (by decide)
 have k1 := key 1 (by decide) (by decide)
 have k2 := key 2 (by decide) (by decide)
 have k3 := key 3 (by decide) (by decide)
 cases u
 cases v
 simp [W4.sel] at k0 k1 k2 k3
 rw [k0, k1, k2, k3]
theorem W4.Rep.uniq {u v : W4} {S T : Int → Prop} (hu : u.Rep S) (hv : v.Rep T) (h : ∀ n, 0 ≤ n → n < 256 → (S n ↔ T n)) : u = v := W4.ext4 fun n h0 h1 => by
 rw [Bool.eq_iff_iff, hu n h0 h1, hv n h0 h1]
 exact h n h0 h1
def W4.put (u : W4) (n : Int) : W4 :=
 if n / 64 = 0 then { u with a := u.a ||| BitVec.twoPow 64 (n % 64).toNat } else if n / 64 = 1 then { u with b := u.b ||| BitVec.twoPow 64 (n % 64).toNat }
 else if n / 64 = 2 then { u with c := u.c ||| BitVec.twoPow 64 (n % 64).toNat } else { u with d := u.d ||| BitVec.twoPow 64 (n % 64).toNat }
theorem W4.put_rep {u : W4} {S : Int → Prop} (h : u.Rep S) {n : Int} (h0 : 0 ≤ n) (h1 : n < 256) : (u.put n).Rep (fun m => S m ∨ m = n) := fun m m0 m1 => by
 show _ ↔ S m ∨ m = n
 rw [← h m m0 m1]
 have key : ∀ (w : BitVec 64), (w ||| BitVec.twoPow 64 (n % 64).toNat).getLsbD (m % 64).toNat = (w.getLsbD (m % 64).toNat || decide (m % 64 = n % 64)) := fun w => by
  rw [BitVec.getLsbD_or, BitVec.getLsbD_twoPow]
  congr 1
  have : (m % 64).toNat < 64 := by omega
  rw [Bool.eq_iff_iff]
  simp [this]
  omega
 unfold W4.put W4.has W4.sel
 have hn : n / 64 = 0 ∨ n / 64 = 1 ∨ n / 64 = 2 ∨ n / 64 = 3 := by omega
 have hm : m / 64 = 0 ∨ m / 64 = 1 ∨ m / 64 = 2 ∨ m / 64 = 3 := by omega
 by_cases e : m / 64 = n / 64
 ·have hmn : (m = n) ↔ m % 64 = n % 64 := by omega
  rw [e, hmn]
  rcases hn with hn | hn | hn | hn <;> simp [hn, key]
 ·have hmn : ¬ m = n := fun h => e (by rw [h])
  rw [or_iff_left hmn]
  rcases hn with hn | hn | hn | hn <;> rcases hm with hm | hm | hm | hm <;> first
   | exact absurd (hm.trans hn.symm) e
   | simp [hn, hm]
def W4.t (u : W4) : Int × Int × Int × Int := (Wd u.a, Wd u.b, Wd u.c, Wd u.d)
end Go.Bw
namespace Go.Bw
open Go Go.RowKit

theorem low_ex {v : BitVec 64} (h : v ≠ 0#64) : ∃ k : Nat, k < 64 ∧ v.getLsbD k = true ∧ ∀ i, i < k → v.getLsbD i = false := by
 have h1 : ∃ k, v.getLsbD k = true := Classical.byContradiction fun hn => h (BitVec.eq_of_getLsbD_eq fun i _ => by
  cases hv : v.getLsbD i with
  | false => simp
  | true => exact absurd ⟨i, hv⟩ hn)
 obtain ⟨k, hk⟩ := h1
 induction k using Nat.strongRecOn with
 | _ k ih =>
  by_cases hl : ∃ i, i < k ∧ v.getLsbD i = true
  ·obtain ⟨i, hi, hv⟩ := hl; exact ih i hi hv
  ·refine ⟨k, BitVec.lt_of_getLsbD hk, hk, fun i hi => ?_⟩
   cases hv : v.getLsbD i with
   | false => rfl
   | true => exact absurd ⟨i, hi, hv⟩ hl
theorem low_nat {v : BitVec 64} {k : Nat} (hk : v.getLsbD k = true) (hb : ∀ i, i < k → v.getLsbD i = false) : v.toNat = 2 ^ (k + 1) * (v.toNat / 2 ^ (k + 1)) + 2 ^ k := by
 have e : v.toNat % 2 ^ (k + 1) = 2 ^ k := by
  apply Nat.eq_of_testBit_eq
  intro i
  rw [Nat.testBit_mod_two_pow, Nat.testBit_two_pow]
  by_cases h1 : i < k
  ·have := hb i h1
   rw [BitVec.getLsbD] at this
   rw [this]; simp; omega
  ·by_cases h2 : i = k
   ·subst h2
    rw [BitVec.getLsbD] at hk
    rw [hk]; simp
   ·rw [decide_eq_false (by omega), decide_eq_false (by omega)]; rfl
 have := Nat.div_add_mod v.toNat (2 ^ (k + 1))
 omega
theorem Q306 {v : BitVec 64} {k : Nat} (hk : v.getLsbD k = true) (hb : ∀ i, i < k → v.getLsbD i = false) (i : Nat) :
 (v - 1#64).getLsbD i = if i < k then true else if i = k then false else v.getLsbD i := by
 have hn := low_nat hk hb
 have hk64 := BitVec.lt_of_getLsbD hk
 have hp : 0 < 2 ^ k := Nat.two_pow_pos k
 have hv := v.isLt
 have e1 : (v - 1#64).toNat = 2 ^ (k + 1) * (v.toNat / 2 ^ (k + 1)) + (2 ^ k - 1) := by
  rw [BitVec.toNat_sub]
  have : (1#64).toNat = 1 := rfl
  rw [this]
  generalize 2 ^ (k + 1) * (v.toNat / 2 ^ (k + 1)) = q at hn
  omega
 have hlt : 2 ^ k - 1 < 2 ^ (k + 1) := by rw [Nat.pow_succ]; omega
 have hlt2 : 2 ^ k < 2 ^ (k + 1) := by rw [Nat.pow_succ]; omega
 have ev : v.getLsbD i = if i < k + 1 then (2 ^ k).testBit i else (v.toNat / 2 ^ (k + 1)).testBit (i - (k + 1)) := by
  have : v.getLsbD i = v.toNat.testBit i := rfl
  rw [this]
  have h3 := Nat.testBit_two_pow_mul_add (v.toNat / 2 ^ (k + 1)) hlt2 i
  rw [← hn] at h3
  exact h3
 have ep : (v - 1#64).getLsbD i = if i < k + 1 then (2 ^ k - 1).testBit i else (v.toNat / 2 ^ (k + 1)).testBit (i - (k + 1)) := by
  have : (v - 1#64).getLsbD i = (v - 1#64).toNat.testBit i := rfl
  rw [this, e1]
  exact Nat.testBit_two_pow_mul_add _ hlt i
 rw [ep]
 by_cases h1 : i < k
 ·rw [if_pos (show i < k + 1 by omega), if_pos h1, Nat.testBit_two_pow_sub_one]; simp [h1]
 ·by_cases h2 : i = k
  ·subst h2
   rw [if_pos (show i < i + 1 by omega), if_neg h1, if_pos rfl, Nat.testBit_two_pow_sub_one]; simp
  ·rw [if_neg (show ¬ i < k + 1 by omega), if_neg h1, if_neg h2, ev, if_neg (show ¬ i < k + 1 by omega)]
theorem Q230 {v : BitVec 64} {k : Nat} (hk : v.getLsbD k = true) (hb : ∀ i, i < k → v.getLsbD i = false) (i : Nat) : (v &&& (v - 1#64)).getLsbD i = (v.getLsbD i && !decide (i = k)) := by
 rw [BitVec.getLsbD_and, Q306 hk hb]
 by_cases h1 : i < k
 ·rw [hb i h1]; rfl
 ·by_cases h2 : i = k
  ·subst h2; simp
  ·simp [h1, h2]
theorem low_only {v : BitVec 64} {k : Nat} (hk : v.getLsbD k = true) (hb : ∀ i, i < k → v.getLsbD i = false) : v &&& -v = BitVec.twoPow 64 k := by
 have e : -v = ~~~(v - 1#64) := by
  apply BitVec.eq_of_toNat_eq
  have hv := v.isLt
  have hn := low_nat hk hb
  have hp : 0 < 2 ^ k := Nat.two_pow_pos k
  rw [BitVec.toNat_not, BitVec.toNat_neg, BitVec.toNat_sub]
  have : (1#64).toNat = 1 := rfl
  rw [this]
  generalize 2 ^ (k + 1) * (v.toNat / 2 ^ (k + 1)) = q at hn
  omega
 apply BitVec.eq_of_getLsbD_eq
 intro i hi
 rw [e, BitVec.getLsbD_and, BitVec.getLsbD_not, Q306 hk hb, BitVec.getLsbD_twoPow]
 by_cases h1 : i < k
 ·rw [hb i h1]; simp; omega
 ·by_cases h2 : i = k
  ·subst h2; simp [hk, hi]
  ·rw [if_neg h1, if_neg h2]
   have : decide (k = i) = false := decide_eq_false (by omega)
   cases v.getLsbD i <;> simp [this, hi]
end Go.Bw
namespace Go.Bw
open Go Go.RowKit

def Canon (l : List Int) : Prop := ∀ i : Int, 0 ≤ i → i < (l.length : Int) → 0 ≤ gt l i ∧ ∀ v : Int, 0 ≤ v → v < gt l i → ∃ j : Int, 0 ≤ j ∧ j < i ∧ gt l j = v
theorem ext_gt {α : Type} [Inhabited α] {l l' : List α} (hn : l.length = l'.length) (h : ∀ k : Nat, k < l.length → gt l k = gt l' k) : l = l' := by
 refine List.ext_getElem hn fun k h1 h2 => ?_
 have := h k h1
 rwa [Q95 (List.getElem?_eq_getElem h1), Q95 (List.getElem?_eq_getElem h2)] at this
theorem Canon.uniq {l l' : List Int} (h : Canon l) (h' : Canon l') (hn : l.length = l'.length)
 (hk : ∀ i j : Int, 0 ≤ i → i < (l.length : Int) → 0 ≤ j → j < (l.length : Int) → (gt l i = gt l j ↔ gt l' i = gt l' j)) : l = l' := by
 refine ext_gt hn fun k => ?_
 induction k using Nat.strongRecOn with
 | _ k ih =>
  intro hkl
  obtain ⟨a0, a1⟩ := h k (by omega) (by omega)
  obtain ⟨b0, b1⟩ := h' k (by omega) (by omega)
  rcases Int.lt_trichotomy (gt l k) (gt l' k) with hlt | he | hlt
  ·obtain ⟨j, j0, j1, j2⟩ := b1 _ a0 hlt
   have e := ih j.toNat (by omega) (by omega)
   rw [show ((j.toNat : Nat) : Int) = j from by omega, j2] at e
   have := (hk j k j0 (by omega) (by omega) (by omega)).1 e
   omega
  ·exact he
  ·obtain ⟨j, j0, j1, j2⟩ := a1 _ b0 hlt
   have e := ih j.toNat (by omega) (by omega)
   rw [show ((j.toNat : Nat) : Int) = j from by omega, j2] at e
   have := (hk j k j0 (by omega) (by omega) (by omega)).2 (by omega)
   omega

section
variable (H : Nat → Int → Prop) (E : Nat → Int → Int → Prop)
structure Ks (H : Nat → Int → Prop) (E : Nat → Int → Int → Prop) (R : Int → Int → Prop) : Prop where
 hd : ∀ s t, R s t → ∀ i, H i s ↔ H i t
 fw : ∀ s t, R s t → ∀ a s', E a s s' → ∃ t', E a t t' ∧ R s' t'
 bw : ∀ s t, R s t → ∀ a t', E a t t' → ∃ s', E a s s' ∧ R s' t'
def Alike (s t : Int) : Prop := ∃ R, Ks H E R ∧ R s t
variable {H E}
theorem Alike.symm {s t : Int} : Alike H E s t → Alike H E t s := fun ⟨R, k, h⟩ => ⟨fun a b => R b a, ⟨fun s t q i => (k.hd t s q i).symm, fun s t q => k.bw t s q, fun s t q => k.fw t s q⟩, h⟩
theorem Alike.ks : Ks H E (Alike H E) :=
 ⟨fun s t ⟨R, k, h⟩ => k.hd s t h, fun s t ⟨R, k, h⟩ a s' e => let ⟨t', e1, q⟩ := k.fw s t h a s' e; ⟨t', e1, R, k, q⟩, fun s t ⟨R, k, h⟩ a t' e => let ⟨s', e1, q⟩ := k.bw s t h a t' e; ⟨s', e1, R, k, q⟩⟩
structure Cls (n : Int) (H : Nat → Int → Prop) (E : Nat → Int → Int → Prop) (l : List Int) : Prop where
 len : (l.length : Int) = n
 canon : Canon l
 iff : ∀ s t : Int, 0 ≤ s → s < n → 0 ≤ t → t < n → (gt l s = gt l t ↔ Alike H E s t)
def Within (n : Int) (E : Nat → Int → Int → Prop) : Prop := ∀ a s t, E a s t → 0 ≤ s ∧ s < n ∧ 0 ≤ t ∧ t < n
theorem cls_of {n : Int} {l : List Int} (hw : Within n E) (hlen : (l.length : Int) = n) (hc : Canon l)
 (h1 : ∀ s t : Int, 0 ≤ s → s < n → 0 ≤ t → t < n → Alike H E s t → gt l s = gt l t)
 (h2 : ∀ s t : Int, 0 ≤ s → s < n → 0 ≤ t → t < n → gt l s = gt l t → (∀ i, H i s ↔ H i t) ∧ ∀ a s', E a s s' → ∃ t', E a t t' ∧ gt l s' = gt l t') : Cls n H E l :=
 ⟨hlen, hc, fun s t s0 s1 t0 t1 => ⟨fun h => ⟨fun a b => 0 ≤ a ∧ a < n ∧ 0 ≤ b ∧ b < n ∧ gt l a = gt l b, ⟨fun a b ⟨a0, a1, b0, b1, e⟩ => (h2 a b a0 a1 b0 b1 e).1, fun a b ⟨a0, a1, b0, b1, e⟩ c a' q => by
  obtain ⟨b', q1, q2⟩ := (h2 a b a0 a1 b0 b1 e).2 c a' q
  have w := hw _ _ _ q
  have w' := hw _ _ _ q1
  exact ⟨b', q1, w.2.2.1, w.2.2.2, w'.2.2.1, w'.2.2.2, q2⟩, fun a b ⟨a0, a1, b0, b1, e⟩ c b' q => by
  obtain ⟨a', q1, q2⟩ := (h2 b a b0 b1 a0 a1 e.symm).2 c b' q
  have w := hw _ _ _ q
  have w' := hw _ _ _ q1
  exact ⟨a', q1, w'.2.2.1, w'.2.2.2, w.2.2.1, w.2.2.2, q2.symm⟩⟩, s0, s1, t0, t1, h⟩, h1 s t s0 s1 t0 t1⟩⟩
end
def pairs (n : Nat) (p : Nat → Nat → Bool) : Nat := ((List.range n).map fun i => (List.range n).countP (p i)).sum
theorem Q215 {α : Type} {p q : α → Bool} : ∀ {l : List α}, (∀ x ∈ l, p x = true → q x = true) → l.countP p ≤ l.countP q
 | [], _ => Nat.le_refl _
 | a :: l, h => by
  have ih := Q215 (p := p) (q := q) (l := l) fun x hx => h x (.tail _ hx)
  have ha := h a (.head _)
  rw [List.countP_cons, List.countP_cons]
  by_cases hp : p a = true
  ·rw [if_pos hp, if_pos (ha hp)]; omega
  ·rw [if_neg hp]; omega
theorem Q265 {α : Type} {p q : α → Bool} : ∀ {l : List α}, (∀ x ∈ l, p x = true → q x = true) → ∀ {y : α}, y ∈ l → p y = false → q y = true → l.countP p < l.countP q
 | [], _, _, hy, _, _ => by cases hy
 | a :: l, h, y, hy, h1, h2 => by
  rw [List.countP_cons, List.countP_cons]
  rcases List.mem_cons.1 hy with rfl | hy
  ·have ih := Q215 (p := p) (q := q) (l := l) fun x hx => h x (.tail _ hx)
   rw [if_neg (by simp [h1]), if_pos h2]; omega
  ·have ih := Q265 (p := p) (q := q) (l := l) (fun x hx => h x (.tail _ hx)) hy h1 h2
   have ha := h a (.head _)
   by_cases hp : p a = true
   ·rw [if_pos hp, if_pos (ha hp)]; omega
   ·rw [if_neg hp]; omega
theorem sum_le {α : Type} {f g : α → Nat} : ∀ {l : List α}, (∀ x ∈ l, f x ≤ g x) → (l.map f).sum ≤ (l.map g).sum
 | [], _ => Nat.le_refl _
 | a :: l, h => by
  have ih := sum_le (f := f) (g := g) (l := l) fun x hx => h x (.tail _ hx)
  have := h a (.head _)
  simp only [List.map_cons, List.sum_cons]; omega
theorem sum_lt {α : Type} {f g : α → Nat} : ∀ {l : List α}, (∀ x ∈ l, f x ≤ g x) → ∀ {y : α}, y ∈ l → f y < g y → (l.map f).sum < (l.map g).sum
 | [], _, _, hy, _ => by cases hy
 | a :: l, h, y, hy, h1 => by
  simp only [List.map_cons, List.sum_cons]
  have ha := h a (.head _)
  rcases List.mem_cons.1 hy with rfl | hy
  ·have ih := sum_le (f := f) (g := g) (l := l) fun x hx => h x (.tail _ hx)
   omega
  ·have ih := sum_lt (f := f) (g := g) (l := l) (fun x hx => h x (.tail _ hx)) hy h1
   omega
theorem pairs_lt {n : Nat} {p q : Nat → Nat → Bool} (h : ∀ i j, i < n → j < n → p i j = true → q i j = true) {a b : Nat} (ha : a < n) (hb : b < n) (h1 : p a b = false) (h2 : q a b = true) : pairs n p < pairs n q :=
 sum_lt (fun i hi => Q215 fun j hj => h i j (by simpa using hi) (by simpa using hj)) (y := a) (by simpa using ha)
  (Q265 (fun j hj => h a j ha (by simpa using hj)) (y := b) (by simpa using hb) h1 h2)
end Go.Bw
namespace Go.Bw
open Go Go.RowKit

theorem Q175 {u : W4} {n : Int} : Q21.f (Wd u.a) (Wd u.b) (Wd u.c) (Wd u.d) n = some (if 0 ≤ n ∧ n < 256 then u.put n else u).t := by
 unfold Q21.f
 by_cases h0 : 0 ≤ n
 ·rw [if_pos h0, Q12]
  by_cases h1 : n < 256
  ·have hm : IntKind.u64.wrap (band .i64 n 63) = n % 64 := by rw [band63 h0 (by omega), wrapu (by omega) (by omega)]
   rw [if_pos (decide_eq_true h1), shr6 h0, hm, shl_one (by omega) (by omega), if_pos (by omega), if_pos (show 0 ≤ n ∧ n < 256 from ⟨h0, h1⟩)]
   have hn : (0 : Int) ≤ n % 64 := by omega
   simp only [if_pos hn, bor_wd]
   unfold W4.put W4.t
   by_cases k0 : n / 64 = 0
   ·rw [if_pos k0, if_pos k0]
   ·by_cases k1 : n / 64 = 1
    ·rw [if_neg k0, if_neg k0, if_pos k1, if_pos k1]
    ·by_cases k2 : n / 64 = 2
     ·rw [if_neg k0, if_neg k0, if_neg k1, if_neg k1, if_pos k2, if_pos k2]
     ·rw [if_neg k0, if_neg k0, if_neg k1, if_neg k1, if_neg k2, if_neg k2]
  ·rw [if_neg (by simp; omega), if_neg (by omega)]
   rfl
 ·rw [if_neg h0, Q12, if_neg (by simp), if_neg (by omega)]
  rfl
theorem of_run4 {l : List Int} (hl : (l.length : Int) ≤ 9223372036854775807) : ∃ u : W4, Q51.f l = some u.t ∧ u.Rep (· ∈ l) := by
 obtain ⟨r, hr, u, rfl, h⟩ := Q35 (body := fun t_ : Int × Int × Int × Int × Int => Q51.l0b l t_.1 t_.2.1 t_.2.2.1 t_.2.2.2.1 t_.2.2.2.2)
  (fun s => 0 ≤ s.2.2.2.2 ∧ s.2.2.2.2 ≤ (l.length : Int) ∧ ∃ u : W4, (s.1, s.2.1, s.2.2.1, s.2.2.2.1) = u.t ∧ u.Rep (· ∈ l.take s.2.2.2.2.toNat))
  (fun r => ∃ u : W4, r = .inl u.t ∧ u.Rep (· ∈ l)) (fun s => (l.length - s.2.2.2.2).toNat)
  (fun ⟨w0, w1, w2, w3, i⟩ ⟨a0, a1, u, a2, a3⟩ => by
   dsimp only at a0 a1 a2 a3 ⊢
   simp only [W4.t, Prod.mk.injEq] at a2
   obtain ⟨rfl, rfl, rfl, rfl⟩ := a2
   unfold Q51.l0b
   by_cases hi : i < (l.length : Int)
   ·right
    rw [if_pos hi, if_pos ⟨a0, hi⟩, Q175, wrap64 (x := i + 1) (by omega) (by omega)]
    refine ⟨_, rfl, ⟨by dsimp only; omega, by dsimp only; omega, _, rfl, fun n n0 n1 => ?_⟩, by dsimp only; omega⟩
    dsimp only
    rw [show (i + 1).toNat = i.toNat + 1 from by omega, List.take_add_one, Q68 a0 hi, List.mem_append]
    simp only [Option.toList_some, List.mem_singleton]
    by_cases hg : 0 ≤ gt l i ∧ gt l i < 256
    ·rw [if_pos hg]
     exact W4.put_rep a3 hg.1 hg.2 n n0 n1
    ·rw [if_neg hg, a3 n n0 n1]
     exact ⟨.inl, fun h => h.elim id fun h => absurd (h ▸ ⟨n0, n1⟩) hg⟩
   ·left
    rw [if_neg hi]
    refine ⟨_, rfl, u, rfl, ?_⟩
    rwa [List.take_of_length_le (by omega)] at a3) (0, 0, 0, 0, 0) ⟨Int.le_refl _, by dsimp only; omega, W4.z, rfl, fun n n0 n1 => by
     dsimp only
     rw [W4.z_rep n n0 n1]
     simp⟩
 refine ⟨u, ?_, h⟩
 unfold Q51.f
 have hl : Q51.l0 l 0 0 0 0 0 = some (.inl u.t) := hr
 rw [hl, Q12]
end Go.Bw
