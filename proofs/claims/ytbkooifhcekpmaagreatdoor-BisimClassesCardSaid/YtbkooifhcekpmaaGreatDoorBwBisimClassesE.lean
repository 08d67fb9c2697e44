/- BisimClasses, part 5: walks and plain laws. Conditions: none. -/
import Derived.Test.YtbkooifhcekpmaaGreatDoorProg
import Derived.Deep.QuietTactic
import Derived.Test.YtbkooifhcekpmaaGreatDoorBwBisimClassesD
set_option linter.unusedVariables false
set_option linter.unusedSimpArgs false
set_option linter.unusedSectionVars false
set_option maxRecDepth 100000
set_option maxHeartbeats 2000000
namespace Go.Bw
open Go Go.RowKit Go.Proofs
variable {R : Res} {Fr : List HProp} {A0 A0_1 A0_2 A0_3 A1 : Option Addr} {n0 c0 n0_1 c0_1 n0_2 c0_2 n0_3 c0_3 n1 c1 : Nat}
noncomputable def Q31.l1b (a0 : List (List Bool)) (a2 q : Int) (u : Bool) (p : Int) : Option ((Bool × Int) ⊕ ((Bool) ⊕ ((Unit) ⊕ ((Int) ⊕ ((Unit) ⊕ (Bool)))))) :=
 if p < (a0.length : Int) then
 jn (
 if u = true then
 some (.inl true)
 else
 if (0 : Int) ≤ IntKind.u64.wrap p then
 jn (
 if band .u64 (Bw.shr .u64 a2 (IntKind.u64.wrap p)) 1 = 1 then
 if (0 : Int) ≤ q ∧ q < (a0.length : Int) then
 if (0 : Int) ≤ p ∧ p < ((gt a0 q).length : Int) then
 some (.inl (true, !(gt (gt a0 q) p)))
 else none
 else none
 else
 some (.inl (false, false))) (fun (s_ : Bool × Bool) =>
 some (.inl s_.2))
 else none) (fun (B : Bool) =>
 nx (B, IntKind.i64.wrap (p + 1)))
 else
 dn (.inl u)
noncomputable def Q31.l1 (a0 : List (List Bool)) (a2 p : Int) (q : Bool) (u : Int) : Option ((Bool) ⊕ ((Unit) ⊕ ((Int) ⊕ ((Unit) ⊕ (Bool))))) := iter (fun t_ : Bool × Int => Q31.l1b a0 a2 p t_.1 t_.2) (q, u)
noncomputable def Q31.l0b (a0 : List (List Bool)) (a1 a2 p : Int) : Option ((Int) ⊕ ((Unit) ⊕ (Bool))) :=
 if p < (a0.length : Int) then
 jn (
 if (0 : Int) ≤ IntKind.u64.wrap p then
 if band .u64 (Bw.shr .u64 a1 (IntKind.u64.wrap p)) 1 = 0 then
 some (.inl ())
 else
 jn (Q31.l1 a0 a2 p false 0) (fun (q : Bool) =>
 if q = true then
 some (.inl ())
 else
 up (upL (some false)))
 else none) (fun (_ : Unit) =>
 nx (IntKind.i64.wrap (p + 1)))
 else
 dn (.inl ())
noncomputable def Q31.l0 (a0 : List (List Bool)) (a1 a2 p : Int) : Option ((Unit) ⊕ (Bool)) := iter (fun t_ : Int => Q31.l0b a0 a1 a2 t_) p
noncomputable def Q31.f (a0 : List (List Bool)) (a1 a2 : Int) : Option Bool :=
 jn (Q31.l0 a0 a1 a2 0) (fun (_ : Unit) =>
 some true)
theorem Q31.callee : Callee Tryz.prog 123 := ⟨_, Tryz.func123, by kernel_rfl, by kernel_rfl⟩
theorem Q31.spec {a0 : List (List Bool)} {a1 a2 : Int} (hr0 : RdS (Fl.bool.rep).slice R.heap A0 a0) (hn0 : a0.length = n0) (hc0 : n0 ≤ c0) {r : Bool} (j : Q31.f a0 a1 a2 = some r) :
 Spec Tryz.prog 123 [.slice A0 n0 c0, .int .u64 a1, .int .u64 a2] R (Fr) (fun v l' => v = .bool r ∧ Fr = l') := by
 subst hn0; refine Spec.of Tryz.func123 rfl rfl ?_; unfold Q31.f at j; have j := brun j; refine sR 1 rfl (nT (At.seq (At.seq (At.region ?_)))); refine At.run 1 rfl (nT ?_); refine At.block ?_; obtain ⟨b9, c8, c9, j⟩ := bjoin j; obtain ⟨I, O, a9⟩ := bsome j; clear j; unfold Q31.l0 at O; obtain ⟨U, D⟩ := Q12.1 O; clear O; refine At.loopJ (X := Int) (Y := Unit) (e0 := 0) (fun p => [(0, .slice A0 a0.length c0), (1, .int .u64 a1), (2, .int .u64 a2), (7, i6 p)]) (fun p => Fr) (fun m_ => fun p => iterN (fun t_ : Int => Q31.l0b a0 a1 a2 t_) m_ p = some I) U 0 D (fun _ => []) (fun _ => Fr) (fun _ => b9 (.inl ()) = some r) (fun a w e hs => ⟨e.sub ⟨rfl, rfl, rfl, rfl, trivial⟩, (by exact hs)⟩) ?_ (fun d0 => ?_)
 ·rintro _ j; have j := (c8 _).symm.trans j
  ·refine At.ibx ?_; refine At.thn (sR 1 rfl (nT (At.ret ?_))); cases bret j; exact At.res (.inl rfl) rfl rfl ⟨rfl, rfl⟩
 ·clear D U; rintro U p D; obtain ⟨d1, f_, d2, hf_, j⟩ := bit D; clear D; have j : (Q31.l0b a0 a1 a2 p).bind _ = some I := j; unfold Q31.l0b at j
  ·refine At.seq (sR 4 rfl (nT ?_)); rcases bite j with ⟨V, j⟩ | ⟨V, j⟩
   ··refine At.condT rfl (decide_eq_true V) ?_
     refine At.skip (At.thn (At.seq ?_)); obtain ⟨d3, d4, d5, j⟩ := bjoin j; refine At.join (X := Unit) (fun _ => [(0, .slice A0 a0.length c0), (1, .int .u64 a1), (2, .int .u64 a2), (7, i6 p)]) (fun _ => Fr) (fun _ => d3 (.inl ()) = some I) ?_ (fun b4 => ?_)
     ·rintro _ j; have j := (d4 _).symm.trans j
      ·refine At.region (At.run 3 rfl (At.nil ?_)); have j := bnx hf_ j; exact fun a w e hs => ⟨d1, (IntKind.i64.wrap (p + 1)), d2, j, e.sub ⟨rfl, rfl, rfl, rfl, trivial⟩, hs⟩
     ··refine At.block ?_
       refine At.seq (sR 3 rfl ?_); obtain ⟨d6, j⟩ := bnone j; refine At.y (Y.shr rfl rfl d6) rfl rfl rfl (At.run 2 rfl (nT ?_)); rcases bite j with ⟨Z, j⟩ | ⟨Z, j⟩
       ··refine At.condT rfl (decide_eq_true Z) ?_
         refine At.exit ?_; refine At.the ?_; refine At.ibx ?_; refine At.thn ?_; exact fun a w e hs => b4 () j a w (e.sub ⟨rfl, rfl, rfl, rfl, trivial⟩) hs
       ··refine At.condF rfl (decide_eq_false Z) ?_
         refine At.skip (At.thn (sR 1 rfl (nT (At.seq ?_)))); refine sR 1 rfl (nT ?_); refine At.block ?_; obtain ⟨d7, d8, f1, j⟩ := bjoin j; obtain ⟨J, a3, d9⟩ := bsome j; clear j; unfold Q31.l1 at a3; obtain ⟨a4, E⟩ := Q12.1 a3; clear a3; refine At.loopJ (X := Bool × Int) (Y := Bool) (e0 := 2) (fun s_ => [(0, .slice A0 a0.length c0), (1, .int .u64 a1), (2, .int .u64 a2), (7, i6 p), (8, .bool s_.1), (9, i6 s_.2)]) (fun s_ => Fr) (fun m_ => fun s_ => iterN (fun t_ : Bool × Int => Q31.l1b a0 a2 p t_.1 t_.2) m_ (s_.1, s_.2) = some J) a4 (false, 0) E (fun G => [(0, .slice A0 a0.length c0), (1, .int .u64 a1), (2, .int .u64 a2), (7, i6 p), (8, .bool G)]) (fun G => Fr) (fun G => d7 (.inl G) = some I) (fun a w e hs => ⟨e.sub ⟨rfl, rfl, rfl, rfl, rfl, rfl, trivial⟩, (by exact hs)⟩) ?_ (fun e1 => ?_)
         ·rintro G j; have j := (d8 _).symm.trans j
          ·refine At.ibx ?_; refine At.thn (sR 2 rfl (nT ?_)); rcases bite j with ⟨a5, j⟩ | ⟨a5, j⟩
           ··refine At.condF rfl (nf a5) ?_
             refine At.skip ?_; refine At.ibn ?_; refine At.thn ?_; exact fun a w e hs => b4 () j a w (e.sub ⟨rfl, rfl, rfl, rfl, trivial⟩) hs
           ··refine At.condT rfl (nt (bn a5)) ?_
             refine sR 1 rfl (nT (At.ret ?_)); refine At.ibr ?_; have j := bup d5 j; refine At.thr ?_; have j := bupL c9 a9 j; refine At.thr ?_; refine At.ibr ?_; refine At.thr ?_; cases bret j; exact At.res (.inl rfl) rfl rfl ⟨rfl, rfl⟩
         ·clear E a4; rintro a4 ⟨b5, u⟩ E; obtain ⟨e2, f_, e3, hf_, j⟩ := bit E; clear E; have j : (Q31.l1b a0 a2 p b5 u).bind _ = some J := j; unfold Q31.l1b at j
          ·refine At.seq (sR 4 rfl (nT ?_)); rcases bite j with ⟨a6, j⟩ | ⟨a6, j⟩
           ··refine At.condT rfl (decide_eq_true a6) ?_
             refine At.skip (At.thn (At.seq ?_)); refine At.block ?_; refine At.region (At.run 2 rfl ?_); obtain ⟨e4, e5, f2, j⟩ := bjoin j; refine At.joinO 17 (X := Bool) (fun B => [(0, .slice A0 a0.length c0), (1, .int .u64 a1), (2, .int .u64 a2), (7, i6 p), (9, i6 u), (46, .bool B)]) (fun B => Fr) (fun B => e4 (.inl B) = some J) ?_ (fun b6 => ?_)
             ·rintro B j; have j := (e5 _).symm.trans j
              ·refine At.run 1 rfl (At.nil ?_); refine At.ibn ?_; refine At.thn (At.region (At.run 3 rfl (At.nil ?_))); have j := bnx hf_ j; exact fun a w e hs => ⟨e2, (B, IntKind.i64.wrap (u + 1)), e3, j, e.sub ⟨rfl, rfl, rfl, rfl, rfl, rfl, trivial⟩, hs⟩
             ··rcases bite j with ⟨a7, j⟩ | ⟨a7, j⟩
               ··refine At.know (t := 29) rfl a7 ?_
                 refine At.run 17 rfl ?_; exact At.of (b6 true j) ⟨rfl, rfl, rfl, rfl, rfl, rfl, trivial⟩
               ··refine At.know (t := 29) rfl (bn a7) ?_
                 refine At.run 3 rfl ?_; obtain ⟨e6, j⟩ := bnone j; refine At.y (Y.shr rfl rfl e6) rfl rfl rfl (At.run 3 rfl ?_); obtain ⟨e7, e8, f3, j⟩ := bjoin j; refine At.joinO 9 (X := Bool × Bool) (fun s_ => [(0, .slice A0 a0.length c0), (1, .int .u64 a1), (2, .int .u64 a2), (7, i6 p), (9, i6 u), (29, .bool false), (30, .int .u64 a2), (31, i6 u), (32, .int .u64 (IntKind.u64.wrap u)), (33, .int .u64 (Bw.shr .u64 a2 (IntKind.u64.wrap u))), (34, .int .u64 (band .u64 (Bw.shr .u64 a2 (IntKind.u64.wrap u)) 1)), (35, .bool (decide (band .u64 (Bw.shr .u64 a2 (IntKind.u64.wrap u)) 1 = 1))), (36, .bool s_.1), (45, .bool s_.2)]) (fun s_ => Fr) (fun s_ => e7 (.inl (s_.1, s_.2)) = some J) ?_ (fun b7 => ?_)
                 ·rintro ⟨f4, e9⟩ j; have j := (e8 _).symm.trans j
                  ·refine At.run 1 rfl ?_; exact At.of (b6 e9 j) ⟨rfl, rfl, rfl, rfl, rfl, rfl, trivial⟩
                 ··rcases bite j with ⟨a8, j⟩ | ⟨a8, j⟩
                   ··refine At.know (t := 36) rfl (decide_eq_true a8) ?_
                     refine At.run 2 rfl ?_; obtain ⟨L, j⟩ := bnone j; refine At.y (Y.ixRd hr0 rfl rfl rfl rfl rfl rfl rfl L.1 L.2) rfl rfl rfl ?_; obtain ⟨f5, f6, f7, b8, f0⟩ := RdS.rowAt (P := Tryz.prog) hr0 (Sub.refl _) rfl L.1 L.2; refine At.y (f0 rfl rfl rfl rfl) rfl rfl rfl ?_; refine At.run 1 rfl ?_; obtain ⟨N, j⟩ := bnone j; refine At.y (Y.ixRd b8 rfl rfl rfl rfl rfl rfl rfl N.1 N.2) rfl rfl rfl (At.y (Y.ldFl b8 rfl (q := 0) rfl rfl N.1 N.2 rfl rfl rfl) rfl rfl rfl (At.run 2 rfl ?_)); exact At.of (b7 (true, !(gt (gt a0 p) u)) j) ⟨rfl, rfl, rfl, rfl, rfl, rfl, rfl, rfl, rfl, rfl, rfl, rfl, rfl, rfl, trivial⟩
                   ··refine At.know (t := 36) rfl (decide_eq_false a8) ?_
                     refine At.run 9 rfl ?_; exact At.of (b7 (false, false) j) ⟨rfl, rfl, rfl, rfl, rfl, rfl, rfl, rfl, rfl, rfl, rfl, rfl, rfl, rfl, trivial⟩
           ··refine At.condF rfl (decide_eq_false a6) ?_
             refine At.exit ?_; refine At.the ?_; refine At.the ?_; exact fun a w e hs => e1 b5 (bdn j d9) a w (e.sub ⟨rfl, rfl, rfl, rfl, rfl, trivial⟩) hs
   ··refine At.condF rfl (decide_eq_false V) ?_
     refine At.exit ?_; refine At.the ?_; refine At.the ?_; exact fun a w e hs => d0 () (bdn j a9) a w (e.sub trivial) hs

noncomputable def Q28.l1b (u : Int) (p : List Bs) (B : List Q0) (D : List Q1) (a1 : List (List Bool)) (a2 a3 q : Int) : Option ((Int) ⊕ ((Unit) ⊕ (Bool))) :=
 if q < (p.length : Int) then
 if (0 : Int) ≤ q ∧ q < (p.length : Int) then
 (Q47.f u p B D a2 (gt p q)).bind fun E =>
 (Q47.f u p B D a3 (gt p q)).bind fun G =>
 (Q31.f a1 E G).bind fun I =>
 (Q31.f a1 G E).bind fun J =>
 jn (
 if I = true then
 some (.inl (!J))
 else
 some (.inl true)) (fun (L : Bool) =>
 if L = true then
 upL (some true)
 else
 nx (IntKind.i64.wrap (q + 1)))
 else none
 else
 dn (.inl ())
noncomputable def Q28.l1 (p : Int) (q : List Bs) (u : List Q0) (B : List Q1) (a1 : List (List Bool)) (a2 a3 D : Int) : Option ((Unit) ⊕ (Bool)) := iter (fun t_ : Int => Q28.l1b p q u B a1 a2 a3 t_) D
noncomputable def Q28.l0b (B : Int) (D : List Bs) (E : List Q0) (q : List Q1) (a2 a3 p : Int) : Option ((Int) ⊕ ((Unit) ⊕ (Bool))) :=
 if p < (q.length : Int) then
 if (0 : Int) ≤ p ∧ p < (q.length : Int) then
 (Q35.f B D E q ((gt q p).Name)).bind fun u =>
 if (0 : Int) ≤ IntKind.u64.wrap a2 then
 if (0 : Int) ≤ IntKind.u64.wrap a3 then
 if band .u64 (Bw.shr .u64 u (IntKind.u64.wrap a2)) 1 = band .u64 (Bw.shr .u64 u (IntKind.u64.wrap a3)) 1 then
 nx (IntKind.i64.wrap (p + 1))
 else
 upL (some true)
 else none
 else none
 else none
 else
 dn (.inl ())
noncomputable def Q28.l0 (p : Int) (q : List Bs) (u : List Q0) (B : List Q1) (a2 a3 D : Int) : Option ((Unit) ⊕ (Bool)) := iter (fun t_ : Int => Q28.l0b p q u B a2 a3 t_) D
noncomputable def Q28.f (p : Int) (q : List Bs) (u : List Q0) (B : List Q1) (a1 : List (List Bool)) (a2 a3 : Int) : Option Bool :=
 jn (Q28.l0 p q u B a2 a3 0) (fun (_ : Unit) =>
 jn (Q28.l1 p q u B a1 a2 a3 0) (fun (_ : Unit) =>
 some false))
theorem Q28.callee : Callee Tryz.prog 80 := ⟨_, Tryz.func80, by kernel_rfl, by kernel_rfl⟩
theorem Q28.spec {D a2 a3 : Int} {p : List Bs} {u : List Q0} {B : List Q1} {a1 : List (List Bool)} (hr0_1 : RdS Fl.bs.rep R.heap A0_1 p) (hn0_1 : p.length = n0_1) (hc0_1 : n0_1 ≤ c0_1) (hr0_2 : RdS Q0.fl.rep R.heap A0_2 u) (hn0_2 : u.length = n0_2) (hc0_2 : n0_2 ≤ c0_2) (hr0_3 : RdS Q1.rep R.heap A0_3 B) (hn0_3 : B.length = n0_3) (hc0_3 : n0_3 ≤ c0_3) (hr1 : RdS (Fl.bool.rep).slice R.heap A1 a1) (hn1 : a1.length = n1) (hc1 : n1 ≤ c1) {r : Bool} (j : Q28.f D p u B a1 a2 a3 = some r) :
 Spec Tryz.prog 80 [.agg #[i6 D, .slice A0_1 n0_1 c0_1, .slice A0_2 n0_2 c0_2, .slice A0_3 n0_3 c0_3], .slice A1 n1 c1, i6 a2, i6 a3] R (Fr) (fun v l' => v = .bool r ∧ Fr = l') := by
 subst hn0_1; subst hn0_2; subst hn0_3; subst hn1; refine Spec.of Tryz.func80 rfl rfl ?_; unfold Q28.f at j; have j := brun j; refine At.seq (At.region ?_); refine At.box rfl rfl (cs := [i6 D, .slice A0_1 p.length c0_1, .slice A0_2 u.length c0_2, .slice A0_3 B.length c0_3]) rfl rfl (fun L => ?_); refine At.run 1 rfl (nT (At.seq (sR 1 rfl (At.nil ?_)))); refine At.thn ?_; refine At.block ?_; obtain ⟨b9, c8, c9, j⟩ := bjoin j; obtain ⟨b5, V, b6⟩ := bsome j; clear j; unfold Q28.l0 at V; obtain ⟨Z, N⟩ := Q12.1 V; clear V; let T1 : HProp := pc L [i6 D, .slice A0_1 p.length c0_1, .slice A0_2 u.length c0_2, .slice A0_3 B.length c0_3] 26; refine At.loopJ (X := Int) (Y := Unit) (e0 := 0) (fun I => [(1, .slice A1 a1.length c1), (2, i6 a2), (3, i6 a3), (4, bp L), (9, i6 I)]) (fun I => T1 :: Fr) (fun m_ => fun I => iterN (fun t_ : Int => Q28.l0b D p u B a2 a3 t_) m_ I = some b5) Z 0 N (fun _ => [(1, .slice A1 a1.length c1), (2, i6 a2), (3, i6 a3), (4, bp L)]) (fun _ => T1 :: Fr) (fun _ => b9 (.inl ()) = some r) (fun a w e hs => ⟨e.sub ⟨rfl, rfl, rfl, rfl, rfl, trivial⟩, (by exact hs)⟩) ?_ (fun d0 => ?_)
 ·rintro _ j; have j := (c8 _).symm.trans j
  ·refine At.ibx ?_; refine At.thn (At.seq (sR 1 rfl (nT ?_))); refine At.block ?_; obtain ⟨d1, d2, d3, j⟩ := bjoin j; obtain ⟨a0, a4, b7⟩ := bsome j; clear j; unfold Q28.l1 at a4; obtain ⟨a5, O⟩ := Q12.1 a4; clear a4; refine At.loopJ (X := Int) (Y := Unit) (e0 := 2) (fun E => [(1, .slice A1 a1.length c1), (2, i6 a2), (3, i6 a3), (4, bp L), (11, i6 E)]) (fun E => T1 :: Fr) (fun m_ => fun E => iterN (fun t_ : Int => Q28.l1b D p u B a1 a2 a3 t_) m_ E = some a0) a5 0 O (fun _ => []) (fun _ => T1 :: Fr) (fun _ => d1 (.inl ()) = some r) (fun a w e hs => ⟨e.sub ⟨rfl, rfl, rfl, rfl, rfl, trivial⟩, (by exact hs)⟩) ?_ (fun d4 => ?_)
   ·rintro _ j; have j := (d2 _).symm.trans j
    ·refine At.ibx ?_; refine At.thn (sR 1 rfl (nT (At.ret (At.drop .z ?_)))); cases bret j; exact At.res (.inl rfl) rfl rfl ⟨rfl, rfl⟩
   ·clear O a5; rintro a5 E O; obtain ⟨d5, f_, d6, hf_, j⟩ := bit O; clear O; have j : (Q28.l1b D p u B a1 a2 a3 E).bind _ = some a0 := j; unfold Q28.l1b at j
    ·refine At.seq (sR 2 rfl (At.y (Y.load rfl rfl .z rfl rfl rfl) rfl rfl rfl (At.run 2 rfl (nT ?_)))); rcases bite j with ⟨a6, j⟩ | ⟨a6, j⟩
     ··refine At.condT rfl (decide_eq_true a6) ?_
       refine At.skip (At.thn (At.seq ?_)); refine At.block ?_; refine At.seq ?_; refine At.quiet (by kernel_rfl) ?_; refine At.Quiet.y (Y.load rfl rfl .z rfl rfl rfl) rfl rfl rfl ?_; refine At.Quiet.run 2 rfl ?_; refine At.Quiet.y (Y.load rfl rfl .z rfl rfl rfl) rfl rfl rfl ?_; refine At.Quiet.run 1 rfl ?_; obtain ⟨G, j⟩ := bnone j; refine At.Quiet.y (Y.ixRd hr0_1 rfl rfl rfl rfl rfl rfl rfl G.1 G.2) rfl rfl rfl ?_; refine At.Quiet.y (Y.ldFl hr0_1 rfl (q := 0) rfl rfl G.1 G.2 rfl rfl rfl) rfl rfl rfl ?_; obtain ⟨f0, d7, j⟩ := bbind j; refine At.Quiet.call rfl Q47.callee rfl rfl rfl (Q47.spec hr0_1 rfl hc0_1 hr0_2 rfl hc0_2 hr0_3 rfl hc0_3 d7) (fun _ _ h_ => ⟨h_.1, fun _ hs => h_.2 ▸ hs⟩) ?_; refine At.Quiet.run 1 rfl (At.Quiet.nil (At.thn (At.seq ?_))); refine At.quiet (by kernel_rfl) ?_; refine At.Quiet.y (Y.load rfl rfl .z rfl rfl rfl) rfl rfl rfl ?_; refine At.Quiet.run 2 rfl ?_; refine At.Quiet.y (Y.load rfl rfl .z rfl rfl rfl) rfl rfl rfl ?_; refine At.Quiet.run 1 rfl ?_; refine At.Quiet.y (Y.ixRd hr0_1 rfl rfl rfl rfl rfl rfl rfl G.1 G.2) rfl rfl rfl ?_; refine At.Quiet.y (Y.ldFl hr0_1 rfl (q := 0) rfl rfl G.1 G.2 rfl rfl rfl) rfl rfl rfl ?_; obtain ⟨f1, d8, j⟩ := bbind j; refine At.Quiet.call rfl Q47.callee rfl rfl rfl (Q47.spec hr0_1 rfl hc0_1 hr0_2 rfl hc0_2 hr0_3 rfl hc0_3 d8) (fun _ _ h_ => ⟨h_.1, fun _ hs => h_.2 ▸ hs⟩) ?_; refine At.Quiet.run 1 rfl (At.Quiet.nil (At.thn (sR 3 rfl ?_))); obtain ⟨f2, d9, j⟩ := bbind j; refine At.call rfl Q31.callee rfl rfl rfl (Q31.spec hr1 rfl hc1 d9) ?_; rintro _ _ ⟨rfl, rfl⟩; refine At.run 1 rfl (nT (sR 3 rfl ?_)); obtain ⟨e1, e2, j⟩ := bbind j; refine At.call rfl Q31.callee rfl rfl rfl (Q31.spec hr1 rfl hc1 e2) ?_; rintro _ _ ⟨rfl, rfl⟩; refine At.run 1 rfl (nT (sR 3 rfl ?_)); obtain ⟨e3, e4, f3, j⟩ := bjoin j; refine At.joinO 3 (X := Bool) (fun U => [(1, .slice A1 a1.length c1), (2, i6 a2), (3, i6 a3), (4, bp L), (11, i6 E), (78, .bool U)]) (fun U => T1 :: Fr) (fun U => e3 (.inl U) = some a0) ?_ (fun b8 => ?_)
       ·rintro U j; have j := (e4 _).symm.trans j
        ·refine nT ?_; rcases bite j with ⟨a7, j⟩ | ⟨a7, j⟩
         ··refine At.condT rfl a7 ?_
           refine sR 1 rfl (nT (At.ret ?_)); refine At.ibr ?_; refine At.thr ?_; have j := bupL d3 b7 j; refine At.thr ?_; refine At.ibr ?_; refine At.thr (At.drop .z ?_); cases bret j; exact At.res (.inl rfl) rfl rfl ⟨rfl, rfl⟩
         ··refine At.condF rfl (bn a7) ?_
           refine At.skip ?_; refine At.ibn ?_; refine At.thn (At.region (At.run 3 rfl (At.nil ?_))); have j := bnx hf_ j; exact fun a w e hs => ⟨d5, (IntKind.i64.wrap (E + 1)), d6, j, e.sub ⟨rfl, rfl, rfl, rfl, rfl, trivial⟩, hs⟩
       ··rcases bite j with ⟨a8, j⟩ | ⟨a8, j⟩
         ··refine At.know (t := 75) rfl (nf a8) ?_
           refine At.run 3 rfl ?_; exact At.of (b8 (!e1) j) ⟨rfl, rfl, rfl, rfl, rfl, rfl, trivial⟩
         ··refine At.know (t := 75) rfl (nt (bn a8)) ?_
           refine At.run 3 rfl ?_; exact At.of (b8 true j) ⟨rfl, rfl, rfl, rfl, rfl, rfl, trivial⟩
     ··refine At.condF rfl (decide_eq_false a6) ?_
       refine At.exit ?_; refine At.the ?_; refine At.the ?_; exact fun a w e hs => d4 () (bdn j b7) a w (e.sub trivial) hs
 ·clear N Z; rintro Z I N; obtain ⟨e5, f_, e6, hf_, j⟩ := bit N; clear N; have j : (Q28.l0b D p u B a2 a3 I).bind _ = some b5 := j; unfold Q28.l0b at j
  ·refine At.seq (sR 2 rfl (At.y (Y.load rfl rfl .z rfl rfl rfl) rfl rfl rfl (At.run 2 rfl (nT ?_)))); rcases bite j with ⟨a9, j⟩ | ⟨a9, j⟩
   ··refine At.condT rfl (decide_eq_true a9) ?_
     refine At.skip (At.thn (At.seq ?_)); refine At.block ?_; refine At.seq ?_; refine At.quiet (by kernel_rfl) ?_; refine At.Quiet.y (Y.load rfl rfl .z rfl rfl rfl) rfl rfl rfl ?_; refine At.Quiet.run 1 rfl ?_; refine At.Quiet.y (Y.load rfl rfl .z rfl rfl rfl) rfl rfl rfl ?_; refine At.Quiet.run 1 rfl ?_; obtain ⟨J, j⟩ := bnone j; refine At.Quiet.y (Y.ixRd hr0_3 rfl rfl rfl rfl rfl rfl rfl J.1 J.2) rfl rfl rfl ?_; refine At.Quiet.y (Y.fa (RdS.some_ hr0_3 rfl J.1 J.2) rfl rfl rfl rfl rfl rfl) rfl rfl rfl ?_; refine At.Quiet.y (Y.ldPrj Q1.prj_Name hr0_3 rfl rfl rfl J.1 J.2 rfl rfl) rfl rfl rfl ?_; obtain ⟨f4, e7, j⟩ := bbind j; refine At.Quiet.call rfl Q35.callee rfl rfl rfl (Q35.spec hr0_1 rfl hc0_1 hr0_2 rfl hc0_2 hr0_3 rfl hc0_3 e7) (fun _ _ h_ => ⟨h_.1, fun _ hs => h_.2 ▸ hs⟩) ?_; refine At.Quiet.run 1 rfl (At.Quiet.nil (At.thn (sR 3 rfl ?_))); obtain ⟨e8, j⟩ := bnone j; refine At.y (Y.shr rfl rfl e8) rfl rfl rfl (At.run 4 rfl ?_); obtain ⟨e9, j⟩ := bnone j; refine At.y (Y.shr rfl rfl e9) rfl rfl rfl (At.run 2 rfl (nT ?_)); rcases bite j with ⟨b4, j⟩ | ⟨b4, j⟩
     ··refine At.condF rfl (nf (decide_eq_true b4)) ?_
       refine At.skip ?_; refine At.ibn ?_; refine At.thn (At.region (At.run 3 rfl (At.nil ?_))); have j := bnx hf_ j; exact fun a w e hs => ⟨e5, (IntKind.i64.wrap (I + 1)), e6, j, e.sub ⟨rfl, rfl, rfl, rfl, rfl, trivial⟩, hs⟩
     ··refine At.condT rfl (nt (decide_eq_false b4)) ?_
       refine sR 1 rfl (nT (At.ret ?_)); refine At.ibr ?_; refine At.thr ?_; have j := bupL c9 b6 j; refine At.thr ?_; refine At.ibr ?_; refine At.thr (At.drop .z ?_); cases bret j; exact At.res (.inl rfl) rfl rfl ⟨rfl, rfl⟩
   ··refine At.condF rfl (decide_eq_false a9) ?_
     refine At.exit ?_; refine At.the ?_; refine At.the ?_; exact fun a w e hs => d0 () (bdn j b6) a w (e.sub ⟨rfl, rfl, rfl, rfl, trivial⟩) hs

noncomputable def Q15.l3b (B : Int) (D : List (List Bool)) (q : Int) (u : List Int) (p : Int) : Option (((List Int) × Int) ⊕ (((List Int)) ⊕ (((List Int) × Int) ⊕ (((List Int) × Int × Int) ⊕ (((List Int)) ⊕ ((List Int))))))) :=
 if p < q then
 jn (
 if (0 : Int) ≤ q ∧ q < ((List.replicate B.toNat ([] : List Bool)).length : Int) then
 if (0 : Int) ≤ p ∧ p < ((gt D q).length : Int) then
 if gt (gt D q) p = true then
 some (.inl u)
 else
 if (0 : Int) ≤ p ∧ p < ((List.replicate B.toNat (0 : Int)).length : Int) then
 some (.inl (st u q (gt u p)))
 else none
 else none
 else none) (fun (E : List Int) =>
 nx (E, IntKind.i64.wrap (p + 1)))
 else
 dn (.inl u)
noncomputable def Q15.l3 (p : Int) (q : List (List Bool)) (u : Int) (B : List Int) (D : Int) : Option (((List Int)) ⊕ (((List Int) × Int) ⊕ (((List Int) × Int × Int) ⊕ (((List Int)) ⊕ ((List Int)))))) := iter (fun t_ : (List Int) × Int => Q15.l3b p q u t_.1 t_.2) (B, D)
noncomputable def Q15.l2b (q : Int) (E : List (List Bool)) (D : List Int) (u p : Int) : Option (((List Int) × Int × Int) ⊕ (((List Int)) ⊕ ((List Int)))) :=
 if p < q then
 jn (
 if (0 : Int) ≤ p ∧ p < ((List.replicate q.toNat (0 : Int)).length : Int) then
 jn (Q15.l3 q E p (st D p (-1)) 0) (fun (B : List Int) =>
 if gt B p < 0 then
 some (.inl ((st B p u), IntKind.i64.wrap (u + 1)))
 else
 some (.inl (B, u)))
 else none) (fun (s_ : (List Int) × Int) =>
 nx (s_.1, s_.2, IntKind.i64.wrap (p + 1)))
 else
 dn (.inl D)
noncomputable def Q15.l2 (p : Int) (q : List (List Bool)) (u : List Int) (B D : Int) : Option (((List Int)) ⊕ ((List Int))) := iter (fun t_ : (List Int) × Int × Int => Q15.l2b p q t_.1 t_.2.1 t_.2.2) (u, B, D)
noncomputable def Q15.l5b (B : Int) (G : List Bs) (I : List Q0) (J : List Q1) (p : Int) (u : List (List Bool)) (D : Bool) (q : Int) : Option (((List (List Bool)) × Bool × Int) ⊕ (((List (List Bool)) × Bool) ⊕ (((List (List Bool)) × Bool × Int) ⊕ (((List (List Bool)) × Bool) ⊕ (((List (List Bool)) × Bool) ⊕ (((List (List Bool))) ⊕ ((List Int)))))))) :=
 if q < B then
 jn (
 if (0 : Int) ≤ p ∧ p < ((List.replicate B.toNat ([] : List Bool)).length : Int) then
 if (0 : Int) ≤ q ∧ q < ((gt u p).length : Int) then
 if gt (gt u p) q = true then
 some (.inl (u, D))
 else
 (Q28.f B G I J u p q).bind fun E =>
 jn (
 if D = true then
 some (.inl true)
 else
 if (0 : Int) ≤ q ∧ q < ((gt (st u p (st (gt u p) q E)) p).length : Int) then
 some (.inl (gt (gt (st u p (st (gt u p) q E)) p) q))
 else none) (fun (L : Bool) =>
 some (.inl ((st u p (st (gt u p) q E)), L)))
 else none
 else none) (fun (s_ : (List (List Bool)) × Bool) =>
 nx (s_.1, s_.2, IntKind.i64.wrap (q + 1)))
 else
 dn (.inl (u, D))
noncomputable def Q15.l5 (p : Int) (q : List Bs) (u : List Q0) (B : List Q1) (D : Int) (E : List (List Bool)) (G : Bool) (I : Int) : Option (((List (List Bool)) × Bool) ⊕ (((List (List Bool)) × Bool × Int) ⊕ (((List (List Bool)) × Bool) ⊕ (((List (List Bool)) × Bool) ⊕ (((List (List Bool))) ⊕ ((List Int))))))) := iter (fun t_ : (List (List Bool)) × Bool × Int => Q15.l5b p q u B D t_.1 t_.2.1 t_.2.2) (E, G, I)
noncomputable def Q15.l4b (q : Int) (D : List Bs) (E : List Q0) (G : List Q1) (u : List (List Bool)) (B : Bool) (p : Int) : Option (((List (List Bool)) × Bool × Int) ⊕ (((List (List Bool)) × Bool) ⊕ (((List (List Bool)) × Bool) ⊕ (((List (List Bool))) ⊕ ((List Int)))))) :=
 if p < q then
 jn (Q15.l5 q D E G p u B 0) (fun (s_ : (List (List Bool)) × Bool) =>
 nx (s_.1, s_.2, IntKind.i64.wrap (p + 1)))
 else
 dn (.inl (u, B))
noncomputable def Q15.l4 (p : Int) (q : List Bs) (u : List Q0) (B : List Q1) (D : List (List Bool)) (E : Bool) (G : Int) : Option (((List (List Bool)) × Bool) ⊕ (((List (List Bool)) × Bool) ⊕ (((List (List Bool))) ⊕ ((List Int))))) := iter (fun t_ : (List (List Bool)) × Bool × Int => Q15.l4b p q u B t_.1 t_.2.1 t_.2.2) (D, E, G)
noncomputable def Q15.l1b (q : Int) (u : List Bs) (B : List Q0) (D : List Q1) (p : List (List Bool)) (E : Bool) : Option (((List (List Bool)) × Bool) ⊕ (((List (List Bool))) ⊕ ((List Int)))) :=
 if E = true then
 jn (Q15.l4 q u B D p false 0) (fun (s_ : (List (List Bool)) × Bool) =>
 nx (s_.1, s_.2))
 else
 dn (.inl p)
noncomputable def Q15.l1 (p : Int) (q : List Bs) (u : List Q0) (B : List Q1) (D : List (List Bool)) (E : Bool) : Option (((List (List Bool))) ⊕ ((List Int))) := iter (fun t_ : (List (List Bool)) × Bool => Q15.l1b p q u B t_.1 t_.2) (D, E)
noncomputable def Q15.l0b (p : Int) (u : List (List Bool)) (q : Int) : Option (((List (List Bool)) × Int) ⊕ (((List (List Bool))) ⊕ ((List Int)))) :=
 if q < p then
 if (0 : Int) ≤ p ∧ (1 : Int) * p ≤ 281474976710656 then
 if (0 : Int) ≤ q ∧ q < ((List.replicate p.toNat ([] : List Bool)).length : Int) then
 nx ((st u q (List.replicate p.toNat (false : Bool))), IntKind.i64.wrap (q + 1))
 else none
 else none
 else
 dn (.inl u)
noncomputable def Q15.l0 (p : Int) (q : List (List Bool)) (u : Int) : Option (((List (List Bool))) ⊕ ((List Int))) := iter (fun t_ : (List (List Bool)) × Int => Q15.l0b p t_.1 t_.2) (q, u)
noncomputable def Q15.f (p : Int) (q : List Bs) (u : List Q0) (B : List Q1) : Option (List Int) :=
 (Q27.f p q u B).bind fun D =>
 if D = true then
 if (0 : Int) ≤ p ∧ (24 : Int) * p ≤ 281474976710656 then
 jn (Q15.l0 p (List.replicate p.toNat ([] : List Bool)) 0) (fun (E : List (List Bool)) =>
 jn (Q15.l1 p q u B E true) (fun (G : List (List Bool)) =>
 if (0 : Int) ≤ p ∧ (8 : Int) * p ≤ 281474976710656 then
 jn (Q15.l2 p G (List.replicate p.toNat (0 : Int)) 0 0) (fun (I : List Int) =>
 some I)
 else none))
 else none
 else
 some ([] : List Int)
theorem Q15.callee : Callee Tryz.prog 33 := ⟨_, Tryz.func33, by kernel_rfl, by kernel_rfl⟩
theorem Q15.spec {p : Int} {L : List Bs} {N : List Q0} {O : List Q1} (hr0_1 : RdS Fl.bs.rep R.heap A0_1 L) (hn0_1 : L.length = n0_1) (hc0_1 : n0_1 ≤ c0_1) (hr0_2 : RdS Q0.fl.rep R.heap A0_2 N) (hn0_2 : N.length = n0_2) (hc0_2 : n0_2 ≤ c0_2) (hr0_3 : RdS Q1.rep R.heap A0_3 O) (hn0_3 : O.length = n0_3) (hc0_3 : n0_3 ≤ c0_3) {r : (List Int)} (j : Q15.f p L N O = some r) :
 Spec Tryz.prog 33 [.agg #[i6 p, .slice A0_1 n0_1 c0_1, .slice A0_2 n0_2 c0_2, .slice A0_3 n0_3 c0_3]] R (Fr) (fun v l' => ∃ (d7 : Nat) (h5 : Option Addr) (h6 : Nat), v = .slice h5 d7 h6 ∧ row (Fl.int .i64) 3 h5 d7 h6 r :: Fr = l' ∧ r.length = d7) := by
 subst hn0_1; subst hn0_2; subst hn0_3; refine Spec.of Tryz.func33 rfl rfl ?_; unfold Q15.f at j; have j := brun j; refine At.seq (At.region ?_); refine At.box rfl rfl (cs := [i6 p, .slice A0_1 L.length c0_1, .slice A0_2 N.length c0_2, .slice A0_3 O.length c0_3]) rfl rfl (fun V => ?_); refine At.run 1 rfl (nT (At.seq (At.region (At.y (Y.load rfl rfl .z rfl rfl rfl) rfl rfl rfl ?_)))); obtain ⟨u5, m7, j⟩ := bbind j; refine At.call rfl Q27.callee rfl rfl rfl (Q27.spec hr0_1 rfl hc0_1 hr0_2 rfl hc0_2 hr0_3 rfl hc0_3 m7) ?_; rintro _ _ ⟨rfl, rfl⟩; refine At.run 1 rfl (nT (At.seq (sR 2 rfl (At.nil ?_)))); refine At.thn ?_; rcases bite j with ⟨d8, j⟩ | ⟨d8, j⟩
 ··refine At.condF rfl (nf d8) ?_
   refine At.skip (At.thn (sR 1 rfl (At.y (Y.load rfl rfl .z rfl rfl rfl) rfl rfl rfl (At.run 1 rfl (At.nil ?_))))); refine At.thn (sR 1 rfl ?_); obtain ⟨h7, j⟩ := bnone j; refine At.makeRows Fl.bool 4 rfl rfl rfl rfl rfl rfl rfl rfl rfl h7.1 h7.2 (by decide) rfl (fun u B => ?_); refine At.run 1 rfl (nT (At.seq (sR 1 rfl (At.nil ?_)))); refine At.thn ?_; refine At.block ?_; obtain ⟨m8, m9, u6, j⟩ := bjoin j; obtain ⟨h8, d9, n2⟩ := bsome j; clear j; unfold Q15.l0 at d9; obtain ⟨e1, a9⟩ := Q12.1 d9; clear d9; let T2 : HProp := pc V [i6 p, .slice A0_1 L.length c0_1, .slice A0_2 N.length c0_2, .slice A0_3 O.length c0_3] 26; refine At.loopJ (X := (List (List Bool)) × Int) (Y := (List (List Bool))) (e0 := 0) (fun s_ => [(1, bp V), (4, i6 p), (5, .slice u ((List.replicate p.toNat ([] : List Bool)).length) B), (6, i6 s_.2)]) (fun s_ => rows Fl.bool 4 127 u ((List.replicate p.toNat ([] : List Bool)).length) B s_.1 :: T2 :: Fr) (fun m_ => fun s_ => iterN (fun t_ : (List (List Bool)) × Int => Q15.l0b p t_.1 t_.2) m_ (s_.1, s_.2) = some h8) e1 ((List.replicate p.toNat ([] : List Bool)), 0) a9 (fun a5 => [(1, bp V), (4, i6 p), (5, .slice u ((List.replicate p.toNat ([] : List Bool)).length) B)]) (fun a5 => rows Fl.bool 4 127 u ((List.replicate p.toNat ([] : List Bool)).length) B a5 :: T2 :: Fr) (fun a5 => m8 (.inl a5) = some r) (fun a w e hs => ⟨e.sub ⟨rfl, rfl, rfl, rfl, trivial⟩, (by exact hs)⟩) ?_ (fun n3 => ?_)
   ·rintro a5 j; have j := (m9 _).symm.trans j
    ·refine At.ibx ?_; refine At.thn (At.seq (sR 1 rfl (nT ?_))); refine At.block ?_; obtain ⟨n4, n5, u7, j⟩ := bjoin j; obtain ⟨e2, e3, n6⟩ := bsome j; clear j; unfold Q15.l1 at e3; obtain ⟨e4, b4⟩ := Q12.1 e3; clear e3; refine At.loopJ (X := (List (List Bool)) × Bool) (Y := (List (List Bool))) (e0 := 2) (fun s_ => [(1, bp V), (4, i6 p), (5, .slice u ((List.replicate p.toNat ([] : List Bool)).length) B), (7, .bool s_.2)]) (fun s_ => rows Fl.bool 4 127 u ((List.replicate p.toNat ([] : List Bool)).length) B s_.1 :: T2 :: Fr) (fun m_ => fun s_ => iterN (fun t_ : (List (List Bool)) × Bool => Q15.l1b p L N O t_.1 t_.2) m_ (s_.1, s_.2) = some e2) e4 (a5, true) b4 (fun Z => [(4, i6 p), (5, .slice u ((List.replicate p.toNat ([] : List Bool)).length) B)]) (fun Z => rows Fl.bool 4 127 u ((List.replicate p.toNat ([] : List Bool)).length) B Z :: T2 :: Fr) (fun Z => n4 (.inl Z) = some r) (fun a w e hs => ⟨e.sub ⟨rfl, rfl, rfl, rfl, trivial⟩, (by exact hs)⟩) ?_ (fun n7 => ?_)
     ·rintro Z j; have j := (n5 _).symm.trans j
      ·refine At.ibx ?_; refine At.thn (sR 1 rfl ?_); obtain ⟨h9, j⟩ := bnone j; refine At.make (F := (Fl.int .i64)) (z := 0) rfl rfl rfl rfl rfl rfl rfl rfl rfl rfl h9.1 h9.2 (by decide) rfl (fun I J => ?_); refine At.run 1 rfl (nT (sR 1 rfl (nT ?_))); refine At.seq (sR 1 rfl (nT ?_)); refine At.block ?_; obtain ⟨n8, n9, u8, j⟩ := bjoin j; obtain ⟨c9, e5, o0⟩ := bsome j; clear j; unfold Q15.l2 at e5; obtain ⟨e6, b5⟩ := Q12.1 e5; clear e5; let T3 : HProp := rows Fl.bool 4 127 u ((List.replicate p.toNat ([] : List Bool)).length) B Z; refine At.loopJ (X := (List Int) × Int × Int) (Y := (List Int)) (e0 := 8) (fun s_ => [(4, i6 p), (5, .slice u ((List.replicate p.toNat ([] : List Bool)).length) B), (10, .slice I ((List.replicate p.toNat (0 : Int)).length) J), (11, i6 s_.2.1), (12, i6 s_.2.2)]) (fun s_ => row (Fl.int .i64) 3 I ((List.replicate p.toNat (0 : Int)).length) J s_.1 :: T3 :: T2 :: Fr) (fun m_ => fun s_ => iterN (fun t_ : (List Int) × Int × Int => Q15.l2b p Z t_.1 t_.2.1 t_.2.2) m_ (s_.1, s_.2.1, s_.2.2) = some c9) e6 ((List.replicate p.toNat (0 : Int)), 0, 0) b5 (fun b6 => [(10, .slice I ((List.replicate p.toNat (0 : Int)).length) J)]) (fun b6 => row (Fl.int .i64) 3 I ((List.replicate p.toNat (0 : Int)).length) J b6 :: T3 :: T2 :: Fr) (fun b6 => n8 (.inl b6) = some r) (fun a w e hs => ⟨e.sub ⟨rfl, rfl, rfl, rfl, rfl, trivial⟩, (by exact hs)⟩) ?_ (fun o7 => ?_)
       ·rintro b6 j; have j := (n9 _).symm.trans j
        ·refine At.ibx ?_; refine At.thn (sR 2 rfl (nT (At.ret ?_))); refine At.rowLen .z fun o8 => ?_; refine At.drop (.s .z) (At.drop (.s .z) ?_); cases bret j; exact At.res (.inl rfl) rfl rfl ⟨(List.replicate p.toNat (0 : Int)).length, I, J, rfl, rfl, o8⟩
       ·clear b5 e6; rintro e6 ⟨e7, a1, U⟩ b5; obtain ⟨o9, f_, p0, hf_, j⟩ := bit b5; clear b5; have j : (Q15.l2b p Z e7 a1 U).bind _ = some c9 := j; unfold Q15.l2b at j
        ·refine At.seq (sR 3 rfl (nT ?_)); rcases bite j with ⟨e8, j⟩ | ⟨e8, j⟩
         ··refine At.condT rfl (decide_eq_true e8) ?_
           refine At.skip (At.thn (At.seq ?_)); obtain ⟨p1, p2, u9, j⟩ := bjoin j; refine At.join (X := (List Int) × Int) (fun s_ => [(4, i6 p), (5, .slice u ((List.replicate p.toNat ([] : List Bool)).length) B), (10, .slice I ((List.replicate p.toNat (0 : Int)).length) J), (11, i6 s_.2), (12, i6 U)]) (fun s_ => row (Fl.int .i64) 3 I ((List.replicate p.toNat (0 : Int)).length) J s_.1 :: T3 :: T2 :: Fr) (fun s_ => p1 (.inl (s_.1, s_.2)) = some c9) ?_ (fun k1 => ?_)
           ·rintro ⟨p3, p4⟩ j; have j := (p2 _).symm.trans j
            ·refine At.region (At.run 3 rfl (At.nil ?_)); have j := bnx hf_ j; exact fun a w e hs => ⟨o9, (p3, p4, IntKind.i64.wrap (U + 1)), p0, j, e.sub ⟨rfl, rfl, rfl, rfl, rfl, trivial⟩, hs⟩
           ··refine At.block ?_
             refine sR 2 rfl ?_; obtain ⟨E, j⟩ := bnone j; refine At.y (Y.ix .z rfl rfl rfl rfl rfl rfl E.1 E.2) rfl rfl rfl ?_; refine At.st rfl .z (q := 0) (z := (-1)) rfl rfl rfl E.1 E.2 rfl rfl (.c .n) ?_; refine nT (At.seq (sR 1 rfl (nT ?_))); refine At.block ?_; obtain ⟨p5, p6, v0, j⟩ := bjoin j; obtain ⟨e9, f0, p7⟩ := bsome j; clear j; unfold Q15.l3 at f0; obtain ⟨f3, b7⟩ := Q12.1 f0; clear f0; refine At.loopJ (X := (List Int) × Int) (Y := (List Int)) (e0 := 10) (fun s_ => [(4, i6 p), (5, .slice u ((List.replicate p.toNat ([] : List Bool)).length) B), (10, .slice I ((List.replicate p.toNat (0 : Int)).length) J), (11, i6 a1), (12, i6 U), (13, i6 s_.2)]) (fun s_ => row (Fl.int .i64) 3 I ((List.replicate p.toNat (0 : Int)).length) J s_.1 :: T3 :: T2 :: Fr) (fun m_ => fun s_ => iterN (fun t_ : (List Int) × Int => Q15.l3b p Z U t_.1 t_.2) m_ (s_.1, s_.2) = some e9) f3 ((st e7 U (-1)), 0) b7 (fun a4 => [(4, i6 p), (5, .slice u ((List.replicate p.toNat ([] : List Bool)).length) B), (10, .slice I ((List.replicate p.toNat (0 : Int)).length) J), (11, i6 a1), (12, i6 U)]) (fun a4 => row (Fl.int .i64) 3 I ((List.replicate p.toNat (0 : Int)).length) J a4 :: T3 :: T2 :: Fr) (fun a4 => p5 (.inl a4) = some c9) (fun a w e hs => ⟨e.sub ⟨rfl, rfl, rfl, rfl, rfl, rfl, trivial⟩, (by exact hs)⟩) ?_ (fun p8 => ?_)
             ·rintro a4 j; have j := (p6 _).symm.trans j
              ·refine At.ibx ?_; refine At.thn (sR 2 rfl (At.y (Y.ix .z rfl rfl rfl rfl rfl rfl E.1 E.2) rfl rfl rfl (At.y (Y.ld .z (q := 0) rfl rfl E.1 E.2 rfl rfl rfl) rfl rfl rfl (At.run 1 rfl (At.nil ?_))))); refine At.thn ?_; rcases bite j with ⟨f4, j⟩ | ⟨f4, j⟩
               ··refine At.condT rfl (decide_eq_true f4) ?_
                 refine sR 3 rfl (At.y (Y.ix .z rfl rfl rfl rfl rfl rfl E.1 E.2) rfl rfl rfl ?_); refine At.st rfl .z (q := 0) (z := a1) rfl rfl rfl E.1 E.2 rfl rfl (.c .n) ?_; refine nT (At.region (At.run 3 rfl (At.nil ?_))); refine At.ibn ?_; refine At.thn ?_; exact fun a w e hs => k1 ((st a4 U a1), IntKind.i64.wrap (a1 + 1)) j a w (e.sub ⟨rfl, rfl, rfl, rfl, rfl, trivial⟩) hs
               ··refine At.condF rfl (decide_eq_false f4) ?_
                 refine At.skip ?_; refine At.ibn ?_; refine At.thn ?_; exact fun a w e hs => k1 (a4, a1) j a w (e.sub ⟨rfl, rfl, rfl, rfl, rfl, trivial⟩) hs
             ·clear b7 f3; rintro f3 ⟨a6, b8⟩ b7; obtain ⟨p9, f_, q0, hf_, j⟩ := bit b7; clear b7; have j : (Q15.l3b p Z U a6 b8).bind _ = some e9 := j; unfold Q15.l3b at j
              ·refine At.seq (sR 3 rfl (nT ?_)); rcases bite j with ⟨f5, j⟩ | ⟨f5, j⟩
               ··refine At.condT rfl (decide_eq_true f5) ?_
                 refine At.skip (At.thn (At.seq ?_)); obtain ⟨q2, q3, v1, j⟩ := bjoin j; refine At.join (X := (List Int)) (fun a7 => [(4, i6 p), (5, .slice u ((List.replicate p.toNat ([] : List Bool)).length) B), (10, .slice I ((List.replicate p.toNat (0 : Int)).length) J), (11, i6 a1), (12, i6 U), (13, i6 b8)]) (fun a7 => T3 :: row (Fl.int .i64) 3 I ((List.replicate p.toNat (0 : Int)).length) J a7 :: T2 :: Fr) (fun a7 => q2 (.inl a7) = some e9) ?_ (fun k2 => ?_)
                 ·rintro a7 j; have j := (q3 _).symm.trans j
                  ·refine At.region (At.run 3 rfl (At.nil (At.f2 (At.f1 (At.f2 ?_))))); have j := bnx hf_ j; exact fun a w e hs => ⟨p9, (a7, IntKind.i64.wrap (b8 + 1)), q0, j, e.sub ⟨rfl, rfl, rfl, rfl, rfl, rfl, trivial⟩, hs⟩
                 ··refine At.block ?_
                   refine sR 2 rfl ?_; refine At.freezeRows (.s .z) fun v2 k3 k4 v3 v4 k5 => ?_; obtain ⟨d0, j⟩ := bnone j; refine At.y (Y.ixRd k3 k4 rfl rfl rfl rfl rfl rfl d0.1 d0.2) rfl rfl rfl ?_; obtain ⟨v5, v6, v7, k6, q4⟩ := RdS.rowAt (P := Tryz.prog) k3 (Sub.refl _) k4 d0.1 d0.2; refine At.y (q4 rfl rfl rfl rfl) rfl rfl rfl ?_; refine At.run 1 rfl ?_; obtain ⟨d1, j⟩ := bnone j; refine At.y (Y.ixRd k6 rfl rfl rfl rfl rfl rfl rfl d1.1 d1.2) rfl rfl rfl (At.y (Y.ldFl k6 rfl (q := 0) rfl rfl d1.1 d1.2 rfl rfl rfl) rfl rfl rfl (At.run 1 rfl (nT ?_))); rcases bite j with ⟨f6, j⟩ | ⟨f6, j⟩
                   ··refine At.condF rfl (nf f6) ?_
                     refine At.skip ?_; refine At.ibn ?_; refine At.thn ?_; refine At.thaw k5 ?_; exact fun a w e hs => k2 a6 j a w (e.sub ⟨rfl, rfl, rfl, rfl, rfl, rfl, trivial⟩) hs
                   ··refine At.condT rfl (nt (bn f6)) ?_
                     refine At.region (At.run 4 rfl ?_); obtain ⟨d2, j⟩ := bnone j; refine At.y (Y.ix .z rfl rfl rfl rfl rfl rfl d2.1 d2.2) rfl rfl rfl (At.y (Y.ld .z (q := 0) rfl rfl d2.1 d2.2 rfl rfl rfl) rfl rfl rfl (At.y (Y.ix .z rfl rfl rfl rfl rfl rfl E.1 E.2) rfl rfl rfl ?_)); refine At.st rfl .z (q := 0) (z := (gt a6 b8)) rfl rfl rfl E.1 E.2 rfl rfl (.c .n) ?_; refine At.nil ?_; refine At.ibn ?_; refine At.thn ?_; refine At.thaw k5 ?_; exact fun a w e hs => k2 (st a6 U (gt a6 b8)) j a w (e.sub ⟨rfl, rfl, rfl, rfl, rfl, rfl, trivial⟩) hs
               ··refine At.condF rfl (decide_eq_false f5) ?_
                 refine At.exit ?_; refine At.the ?_; refine At.the ?_; exact fun a w e hs => p8 a6 (bdn j p7) a w (e.sub ⟨rfl, rfl, rfl, rfl, rfl, trivial⟩) hs
         ··refine At.condF rfl (decide_eq_false e8) ?_
           refine At.exit ?_; refine At.the ?_; refine At.the ?_; exact fun a w e hs => o7 e7 (bdn j o0) a w (e.sub ⟨rfl, trivial⟩) hs
     ·clear b4 e4; rintro e4 ⟨f7, q7⟩ b4; obtain ⟨q8, f_, q9, hf_, j⟩ := bit b4; clear b4; have j : (Q15.l1b p L N O f7 q7).bind _ = some e2 := j; unfold Q15.l1b at j
      ·refine At.seq (sR 1 rfl (nT ?_)); rcases bite j with ⟨f8, j⟩ | ⟨f8, j⟩
       ··refine At.condT rfl f8 ?_
         refine At.skip (At.thn ?_); refine At.block ?_; refine sR 1 rfl (nT (sR 1 rfl ?_)); refine nT ?_; refine At.block ?_; obtain ⟨r0, r1, v8, j⟩ := bjoin j; obtain ⟨f9, g0, r2⟩ := bsome j; clear j; unfold Q15.l4 at g0; obtain ⟨g1, b9⟩ := Q12.1 g0; clear g0; refine At.loopJ (X := (List (List Bool)) × Bool × Int) (Y := (List (List Bool)) × Bool) (e0 := 4) (fun s_ => [(1, bp V), (4, i6 p), (5, .slice u ((List.replicate p.toNat ([] : List Bool)).length) B), (7, .bool s_.2.1), (8, i6 s_.2.2)]) (fun s_ => rows Fl.bool 4 127 u ((List.replicate p.toNat ([] : List Bool)).length) B s_.1 :: T2 :: Fr) (fun m_ => fun s_ => iterN (fun t_ : (List (List Bool)) × Bool × Int => Q15.l4b p L N O t_.1 t_.2.1 t_.2.2) m_ (s_.1, s_.2.1, s_.2.2) = some f9) g1 (f7, false, 0) b9 (fun s_ => [(1, bp V), (4, i6 p), (5, .slice u ((List.replicate p.toNat ([] : List Bool)).length) B), (7, .bool s_.2)]) (fun s_ => rows Fl.bool 4 127 u ((List.replicate p.toNat ([] : List Bool)).length) B s_.1 :: T2 :: Fr) (fun s_ => r0 (.inl (s_.1, s_.2)) = some e2) (fun a w e hs => ⟨e.sub ⟨rfl, rfl, rfl, rfl, rfl, trivial⟩, (by exact hs)⟩) ?_ (fun r3 => ?_)
         ·rintro ⟨r4, r5⟩ j; have j := (r1 _).symm.trans j
          ·refine At.ibx ?_; refine At.ibn ?_; have j := bnx hf_ j; exact fun a w e hs => ⟨q8, (r4, r5), q9, j, e.sub ⟨rfl, rfl, rfl, rfl, trivial⟩, hs⟩
         ·clear b9 g1; rintro g1 ⟨g2, g3, G⟩ b9; obtain ⟨r6, f_, r7, hf_, j⟩ := bit b9; clear b9; have j : (Q15.l4b p L N O g2 g3 G).bind _ = some f9 := j; unfold Q15.l4b at j
          ·refine At.seq (sR 3 rfl (nT ?_)); rcases bite j with ⟨g4, j⟩ | ⟨g4, j⟩
           ··refine At.condT rfl (decide_eq_true g4) ?_
             refine At.skip (At.thn (At.seq ?_)); refine At.block ?_; refine sR 1 rfl (nT ?_); refine At.block ?_; obtain ⟨r8, r9, v9, j⟩ := bjoin j; obtain ⟨d3, g5, s0⟩ := bsome j; clear j; unfold Q15.l5 at g5; obtain ⟨g6, c8⟩ := Q12.1 g5; clear g5; refine At.loopJ (X := (List (List Bool)) × Bool × Int) (Y := (List (List Bool)) × Bool) (e0 := 6) (fun s_ => [(1, bp V), (4, i6 p), (5, .slice u ((List.replicate p.toNat ([] : List Bool)).length) B), (7, .bool s_.2.1), (8, i6 G), (9, i6 s_.2.2)]) (fun s_ => rows Fl.bool 4 127 u ((List.replicate p.toNat ([] : List Bool)).length) B s_.1 :: T2 :: Fr) (fun m_ => fun s_ => iterN (fun t_ : (List (List Bool)) × Bool × Int => Q15.l5b p L N O G t_.1 t_.2.1 t_.2.2) m_ (s_.1, s_.2.1, s_.2.2) = some d3) g6 (g2, g3, 0) c8 (fun s_ => [(1, bp V), (4, i6 p), (5, .slice u ((List.replicate p.toNat ([] : List Bool)).length) B), (7, .bool s_.2), (8, i6 G)]) (fun s_ => rows Fl.bool 4 127 u ((List.replicate p.toNat ([] : List Bool)).length) B s_.1 :: T2 :: Fr) (fun s_ => r8 (.inl (s_.1, s_.2)) = some f9) (fun a w e hs => ⟨e.sub ⟨rfl, rfl, rfl, rfl, rfl, rfl, trivial⟩, (by exact hs)⟩) ?_ (fun s1 => ?_)
             ·rintro ⟨s2, s3⟩ j; have j := (r9 _).symm.trans j
              ·refine At.ibx ?_; refine At.ibn ?_; refine At.thn (At.region (At.run 3 rfl (At.nil ?_))); have j := bnx hf_ j; exact fun a w e hs => ⟨r6, (s2, s3, IntKind.i64.wrap (G + 1)), r7, j, e.sub ⟨rfl, rfl, rfl, rfl, rfl, trivial⟩, hs⟩
             ·clear c8 g6; rintro g6 ⟨a0, g7, a2⟩ c8; obtain ⟨s4, f_, s5, hf_, j⟩ := bit c8; clear c8; have j : (Q15.l5b p L N O G a0 g7 a2).bind _ = some d3 := j; unfold Q15.l5b at j
              ·refine At.seq (sR 3 rfl (nT ?_)); rcases bite j with ⟨g8, j⟩ | ⟨g8, j⟩
               ··refine At.condT rfl (decide_eq_true g8) ?_
                 refine At.skip (At.thn (At.seq ?_)); obtain ⟨s6, s7, w0, j⟩ := bjoin j; refine At.join (X := (List (List Bool)) × Bool) (fun s_ => [(1, bp V), (4, i6 p), (5, .slice u ((List.replicate p.toNat ([] : List Bool)).length) B), (7, .bool s_.2), (8, i6 G), (9, i6 a2)]) (fun s_ => rows Fl.bool 4 127 u ((List.replicate p.toNat ([] : List Bool)).length) B s_.1 :: T2 :: Fr) (fun s_ => s6 (.inl (s_.1, s_.2)) = some d3) ?_ (fun k7 => ?_)
                 ·rintro ⟨s8, s9⟩ j; have j := (s7 _).symm.trans j
                  ·refine At.region (At.run 3 rfl (At.nil ?_)); have j := bnx hf_ j; exact fun a w e hs => ⟨s4, (s8, s9, IntKind.i64.wrap (a2 + 1)), s5, j, e.sub ⟨rfl, rfl, rfl, rfl, rfl, rfl, trivial⟩, hs⟩
                 ··refine At.block ?_
                   refine sR 2 rfl ?_; refine At.freezeRows .z fun w1 k8 k9 w2 w3 m0 => ?_; obtain ⟨D, j⟩ := bnone j; refine At.y (Y.ixRd k8 k9 rfl rfl rfl rfl rfl rfl D.1 D.2) rfl rfl rfl ?_; obtain ⟨w4, w5, w6, m1, t0⟩ := RdS.rowAt (P := Tryz.prog) k8 (Sub.refl _) k9 D.1 D.2; refine At.y (t0 rfl rfl rfl rfl) rfl rfl rfl ?_; refine At.run 1 rfl ?_; obtain ⟨a3, j⟩ := bnone j; refine At.y (Y.ixRd m1 rfl rfl rfl rfl rfl rfl rfl a3.1 a3.2) rfl rfl rfl (At.y (Y.ldFl m1 rfl (q := 0) rfl rfl a3.1 a3.2 rfl rfl rfl) rfl rfl rfl (At.run 1 rfl (nT ?_))); rcases bite j with ⟨g9, j⟩ | ⟨g9, j⟩
                   ··refine At.condF rfl (nf g9) ?_
                     refine At.skip ?_; refine At.ibn ?_; refine At.thn ?_; refine At.thaw m0 ?_; exact fun a w e hs => k7 (a0, g7) j a w (e.sub ⟨rfl, rfl, rfl, rfl, rfl, rfl, trivial⟩) hs
                   ··refine At.condT rfl (nt (bn g9)) ?_
                     refine At.seq ?_; refine At.thaw m0 ?_; refine At.openHole .z D.1 D.2 (fun t1 t3 => ?_); refine At.held [hole Fl.bool 4 127 u ((List.replicate p.toNat ([] : List Bool)).length) B a0 G t1 t3, T2] 12 rfl ?_; refine At.H.pw 0 rfl rfl rfl rfl rfl (.c .z (.c (.s .z) .n)) ?_; refine At.H.pw 1 rfl rfl rfl rfl rfl (.c .z (.c (.s .z) .n)) ?_; refine At.H.tw 2 rfl (Y.ixHole .z rfl rfl rfl rfl rfl rfl D.1 D.2) rfl rfl rfl (.c .z (.c (.s .z) .n)) ?_; refine At.H.tw 3 rfl (Y.ldHole .z rfl rfl rfl rfl D.1 D.2) rfl rfl rfl (.c .z (.c (.s .z) .n)) ?_; refine At.H.pw 4 rfl rfl rfl rfl rfl (.c .z (.c (.s .z) .n)) ?_; refine At.H.tw 5 rfl (Y.load rfl rfl (.s .z) rfl rfl rfl) rfl rfl rfl (.c .z (.c (.s .z) .n)) ?_; refine At.H.pw 6 rfl rfl rfl rfl rfl (.c .z (.c (.s .z) .n)) ?_; refine At.H.pw 7 rfl rfl rfl rfl rfl (.c .z (.c (.s .z) .n)) ?_; refine At.H.pw 8 rfl rfl rfl rfl rfl (.c .z (.c (.s .z) .n)) ?_; refine At.H.al [9] (Q7 ?_ Q11)
                     ··refine At.HO.op rfl ?_
                       refine At.freezeHole .z .z D.1 D.2 fun w7 t4 t5 t6 h0 t7 => ?_; obtain ⟨d4, t8, j⟩ := bbind j; refine At.call rfl Q28.callee rfl rfl rfl (Q28.spec (RdS.mono h0 hr0_1) rfl hc0_1 (RdS.mono h0 hr0_2) rfl hc0_2 (RdS.mono h0 hr0_3) rfl hc0_3 t4 t5 t6 t8) ?_; rintro _ _ ⟨rfl, rfl⟩; refine At.thaw2 t7 ?_; refine At.HO.back (.c .z (.c (.s .z) .n)) ?_; refine At.H.al [10] (Q7 ?_ Q11)
                       ··refine At.HO.op rfl ?_
                         refine At.y (Y.ix (.s .z) rfl rfl rfl rfl rfl rfl a3.1 a3.2) rfl rfl rfl ?_; refine At.HO.back (.c .z (.c (.s .z) .n)) ?_; refine At.H.al [11] (Q7 ?_ Q11)
                         ··refine At.HO.op rfl ?_
                           refine At.st rfl (.s .z) (q := 0) (z := d4) rfl rfl rfl a3.1 a3.2 rfl rfl (.c .n) ?_; refine At.HO.back (.c (.s .z) (.c (.s .z) .n)) ?_; refine At.H.done (by kernel_rfl) ?_; refine At.closeHole (.s .z) .z D.1 D.2 ?_; refine At.thn (At.region (At.run 2 rfl ?_)); obtain ⟨t9, u0, w8, j⟩ := bjoin j; let T4 : HProp := rows Fl.bool 4 127 u ((List.replicate p.toNat ([] : List Bool)).length) B (st a0 G (st (gt a0 G) a2 d4)); refine At.joinO 8 (X := Bool) (fun a8 => [(1, bp V), (4, i6 p), (5, .slice u ((List.replicate p.toNat ([] : List Bool)).length) B), (8, i6 G), (9, i6 a2), (71, .bool a8)]) (fun a8 => T4 :: T2 :: Fr) (fun a8 => t9 (.inl a8) = some d3) ?_ (fun m2 => ?_)
                           ·rintro a8 j; have j := (u0 _).symm.trans j
                            ·refine At.run 1 rfl (At.nil ?_); refine At.ibn ?_; refine At.thn ?_; exact fun a w e hs => k7 ((st a0 G (st (gt a0 G) a2 d4)), a8) j a w (e.sub ⟨rfl, rfl, rfl, rfl, rfl, rfl, trivial⟩) hs
                           ··rcases bite j with ⟨h1, j⟩ | ⟨h1, j⟩
                             ··refine At.know (t := 63) rfl h1 ?_
                               refine At.run 8 rfl ?_; exact At.of (m2 true j) ⟨rfl, rfl, rfl, rfl, rfl, rfl, trivial⟩
                             ··refine At.know (t := 63) rfl (bn h1) ?_
                               refine At.run 2 rfl ?_; refine At.freezeRows .z fun w9 m3 m4 x0 x1 u1 => ?_; refine At.y (Y.ixRd m3 m4 rfl rfl rfl rfl rfl rfl D.1 D.2) rfl rfl rfl ?_; obtain ⟨x2, x3, x4, m5, u2⟩ := RdS.rowAt (P := Tryz.prog) m3 (Sub.refl _) m4 D.1 D.2; refine At.y (u2 rfl rfl rfl rfl) rfl rfl rfl ?_; refine At.run 1 rfl ?_; obtain ⟨d5, j⟩ := bnone j; refine At.y (Y.ixRd m5 rfl rfl rfl rfl rfl rfl rfl d5.1 d5.2) rfl rfl rfl (At.y (Y.ldFl m5 rfl (q := 0) rfl rfl d5.1 d5.2 rfl rfl rfl) rfl rfl rfl (At.run 1 rfl ?_)); refine At.thaw u1 ?_; exact At.of (m2 (gt (gt (st a0 G (st (gt a0 G) a2 d4)) G) a2) j) ⟨rfl, rfl, rfl, rfl, rfl, rfl, trivial⟩
               ··refine At.condF rfl (decide_eq_false g8) ?_
                 refine At.exit ?_; refine At.the ?_; refine At.the ?_; exact fun a w e hs => s1 (a0, g7) (bdn j s0) a w (e.sub ⟨rfl, rfl, rfl, rfl, rfl, trivial⟩) hs
           ··refine At.condF rfl (decide_eq_false g4) ?_
             refine At.exit ?_; refine At.the ?_; refine At.the ?_; exact fun a w e hs => r3 (g2, g3) (bdn j r2) a w (e.sub ⟨rfl, rfl, rfl, rfl, trivial⟩) hs
       ··refine At.condF rfl (bn f8) ?_
         refine At.exit ?_; refine At.the ?_; refine At.the ?_; exact fun a w e hs => n7 f7 (bdn j n6) a w (e.sub ⟨rfl, rfl, trivial⟩) hs
   ·clear a9 e1; rintro e1 ⟨h2, h3⟩ a9; obtain ⟨u3, f_, u4, hf_, j⟩ := bit a9; clear a9; have j : (Q15.l0b p h2 h3).bind _ = some h8 := j; unfold Q15.l0b at j
    ·refine At.seq (sR 3 rfl (nT ?_)); rcases bite j with ⟨h4, j⟩ | ⟨h4, j⟩
     ··refine At.condT rfl (decide_eq_true h4) ?_
       refine At.skip (At.thn (At.seq ?_)); refine At.block ?_; refine At.region (At.run 3 rfl ?_); obtain ⟨m6, j⟩ := bnone j; refine At.make (F := Fl.bool) (z := false) rfl rfl rfl rfl rfl rfl rfl rfl rfl rfl m6.1 m6.2 (by decide) rfl (fun x5 x6 => ?_); obtain ⟨d6, j⟩ := bnone j; refine At.y (Y.ixRows (.s .z) rfl rfl rfl rfl rfl rfl d6.1 d6.2) rfl rfl rfl ?_; refine At.stRows rfl (.s .z) .z rfl rfl rfl rfl d6.1 d6.2 ?_; refine At.nil ?_; refine At.ibn ?_; refine At.thn (At.region (At.run 3 rfl (At.nil ?_))); have j := bnx hf_ j; exact fun a w e hs => ⟨u3, ((st h2 h3 (List.replicate p.toNat (false : Bool))), IntKind.i64.wrap (h3 + 1)), u4, j, e.sub ⟨rfl, rfl, rfl, rfl, trivial⟩, hs⟩
     ··refine At.condF rfl (decide_eq_false h4) ?_
       refine At.exit ?_; refine At.the ?_; refine At.the ?_; exact fun a w e hs => n3 h2 (bdn j n2) a w (e.sub ⟨rfl, rfl, rfl, trivial⟩) hs
 ··refine At.condT rfl (nt (bn d8)) ?_
   refine sR 1 rfl (nT (At.ret (At.thr ?_))); refine At.nilRow (Fl.int .i64) 3 ?_; refine At.drop (.s .z) ?_; cases bret j; exact At.res (.inl rfl) rfl rfl ⟨0, none, 0, rfl, rfl, rfl⟩

noncomputable def Q9.l4b (q : List Q1) (B : (List Int)) (u E : Int) (D : Bool) (p : Int) : Option ((Bool × Int) ⊕ ((Bool) ⊕ (((List Int)) ⊕ (((List Int) × Int) ⊕ (((List Int)) ⊕ (((List Q1) × Int) ⊕ (((List Q1)) ⊕ ((List Q1) × (List Q0) × (List Bs) × (List Int) × Int)))))))) :=
 if p < ((gt q u).States.length : Int) then
 jn (
 if D = true then
 some (.inl true)
 else
 if (0 : Int) ≤ p ∧ p < ((gt q u).States.length : Int) then
 if (0 : Int) ≤ gt ((gt q u).States) p ∧ gt ((gt q u).States) p < (B.length : Int) then
 some (.inl (decide (gt B (gt ((gt q u).States) p) = E)))
 else none
 else none) (fun (G : Bool) =>
 nx (G, IntKind.i64.wrap (p + 1)))
 else
 dn (.inl D)
noncomputable def Q9.l4 (p : List Q1) (q : (List Int)) (u B : Int) (D : Bool) (E : Int) : Option ((Bool) ⊕ (((List Int)) ⊕ (((List Int) × Int) ⊕ (((List Int)) ⊕ (((List Q1) × Int) ⊕ (((List Q1)) ⊕ ((List Q1) × (List Q0) × (List Bs) × (List Int) × Int))))))) := iter (fun t_ : Bool × Int => Q9.l4b p q u B t_.1 t_.2) (D, E)
noncomputable def Q9.l3b (u : List Q1) (B : (List Int)) (D E : Int) (q : List Int) (p : Int) : Option (((List Int) × Int) ⊕ (((List Int)) ⊕ (((List Q1) × Int) ⊕ (((List Q1)) ⊕ ((List Q1) × (List Q0) × (List Bs) × (List Int) × Int))))) :=
 if p < D then
 jn (
 jn (Q9.l4 u B E p false 0) (fun (G : Bool) =>
 if G = true then
 if (q.length + ([p] : List Int).length) * 8 ≤ 140737488355328 then
 some (.inl (q ++ ([p] : List Int)))
 else none
 else
 some (.inl q))) (fun (I : List Int) =>
 nx (I, IntKind.i64.wrap (p + 1)))
 else
 dn (.inl q)
noncomputable def Q9.l3 (p : List Q1) (q : (List Int)) (u B : Int) (D : List Int) (E : Int) : Option (((List Int)) ⊕ (((List Q1) × Int) ⊕ (((List Q1)) ⊕ ((List Q1) × (List Q0) × (List Bs) × (List Int) × Int)))) := iter (fun t_ : (List Int) × Int => Q9.l3b p q u B t_.1 t_.2) (D, E)
noncomputable def Q9.l2b (q : List Q1) (B : (List Int)) (D : Int) (u : List Q1) (p : Int) : Option (((List Q1) × Int) ⊕ (((List Q1)) ⊕ ((List Q1) × (List Q0) × (List Bs) × (List Int) × Int))) :=
 if p < (q.length : Int) then
 if (0 : Int) ≤ p ∧ p < (q.length : Int) then
 jn (Q9.l3 q B D p ([] : List Int) 0) (fun (E : List Int) =>
 if (u.length + 1) * 40 ≤ 140737488355328 then
 nx ((u ++ [(⟨((gt q p).Name), E⟩ : Q1)]), IntKind.i64.wrap (p + 1))
 else none)
 else none
 else
 dn (.inl u)
noncomputable def Q9.l2 (p : List Q1) (q : (List Int)) (u : Int) (B : List Q1) (D : Int) : Option (((List Q1)) ⊕ ((List Q1) × (List Q0) × (List Bs) × (List Int) × Int)) := iter (fun t_ : (List Q1) × Int => Q9.l2b p q u t_.1 t_.2) (B, D)
noncomputable def Q9.l7b (q : List Q0) (u : (List Int)) (D E G : Int) (B : Bool) (p : Int) : Option ((Bool × Int) ⊕ ((Bool) ⊕ (((List Q0)) ⊕ (((List Q0) × Int) ⊕ (((List Q0)) ⊕ (((List Q0) × Int) ⊕ (((List Q0)) ⊕ (((List Q0) × Int) ⊕ (((List Q0)) ⊕ ((List Q1) × (List Q0) × (List Bs) × (List Int) × Int)))))))))) :=
 if p < (q.length : Int) then
 if (0 : Int) ≤ p ∧ p < (q.length : Int) then
 jn (
 if B = true then
 some (.inl true)
 else
 jn (
 if (gt q p).Action = E then
 if (0 : Int) ≤ (gt q p).From ∧ (gt q p).From < (u.length : Int) then
 some (.inl (true, decide (gt u ((gt q p).From) = D)))
 else none
 else
 some (.inl (false, false))) (fun (s_ : Bool × Bool) =>
 jn (
 if s_.2 = true then
 if (0 : Int) ≤ (gt q p).To ∧ (gt q p).To < (u.length : Int) then
 some (.inl (true, decide (gt u ((gt q p).To) = G)))
 else none
 else
 some (.inl (false, false))) (fun (s_ : Bool × Bool) =>
 some (.inl s_.2)))) (fun (I : Bool) =>
 nx (I, IntKind.i64.wrap (p + 1)))
 else none
 else
 dn (.inl B)
noncomputable def Q9.l7 (p : List Q0) (q : (List Int)) (u B D : Int) (E : Bool) (G : Int) : Option ((Bool) ⊕ (((List Q0)) ⊕ (((List Q0) × Int) ⊕ (((List Q0)) ⊕ (((List Q0) × Int) ⊕ (((List Q0)) ⊕ (((List Q0) × Int) ⊕ (((List Q0)) ⊕ ((List Q1) × (List Q0) × (List Bs) × (List Int) × Int))))))))) := iter (fun t_ : Bool × Int => Q9.l7b p q u B D t_.1 t_.2) (E, G)
noncomputable def Q9.l6b (D : List Q0) (E : (List Int)) (G u B : Int) (q : List Q0) (p : Int) : Option (((List Q0) × Int) ⊕ (((List Q0)) ⊕ (((List Q0) × Int) ⊕ (((List Q0)) ⊕ (((List Q0) × Int) ⊕ (((List Q0)) ⊕ ((List Q1) × (List Q0) × (List Bs) × (List Int) × Int))))))) :=
 if p < G then
 jn (
 jn (Q9.l7 D E u B p false 0) (fun (I : Bool) =>
 if I = true then
 if (q.length + ([(⟨u, B, p⟩ : Q0)] : List Q0).length) * 24 ≤ 140737488355328 then
 some (.inl (q ++ ([(⟨u, B, p⟩ : Q0)] : List Q0)))
 else none
 else
 some (.inl q))) (fun (J : List Q0) =>
 nx (J, IntKind.i64.wrap (p + 1)))
 else
 dn (.inl q)
noncomputable def Q9.l6 (p : List Q0) (q : (List Int)) (u B D : Int) (E : List Q0) (G : Int) : Option (((List Q0)) ⊕ (((List Q0) × Int) ⊕ (((List Q0)) ⊕ (((List Q0) × Int) ⊕ (((List Q0)) ⊕ ((List Q1) × (List Q0) × (List Bs) × (List Int) × Int)))))) := iter (fun t_ : (List Q0) × Int => Q9.l6b p q u B D t_.1 t_.2) (E, G)
noncomputable def Q9.l5b (u : List Bs) (B : List Q0) (D : (List Int)) (E G : Int) (q : List Q0) (p : Int) : Option (((List Q0) × Int) ⊕ (((List Q0)) ⊕ (((List Q0) × Int) ⊕ (((List Q0)) ⊕ ((List Q1) × (List Q0) × (List Bs) × (List Int) × Int))))) :=
 if p < (u.length : Int) then
 jn (Q9.l6 B D E G p q 0) (fun (I : List Q0) =>
 nx (I, IntKind.i64.wrap (p + 1)))
 else
 dn (.inl q)
noncomputable def Q9.l5 (p : List Bs) (q : List Q0) (u : (List Int)) (B D : Int) (E : List Q0) (G : Int) : Option (((List Q0)) ⊕ (((List Q0) × Int) ⊕ (((List Q0)) ⊕ ((List Q1) × (List Q0) × (List Bs) × (List Int) × Int)))) := iter (fun t_ : (List Q0) × Int => Q9.l5b p q u B D t_.1 t_.2) (E, G)
noncomputable def Q9.l1b (B : List Bs) (D : List Q0) (E : (List Int)) (q : Int) (u : List Q0) (p : Int) : Option (((List Q0) × Int) ⊕ (((List Q0)) ⊕ ((List Q1) × (List Q0) × (List Bs) × (List Int) × Int))) :=
 if p < q then
 jn (Q9.l5 B D E q p u 0) (fun (G : List Q0) =>
 nx (G, IntKind.i64.wrap (p + 1)))
 else
 dn (.inl u)
noncomputable def Q9.l1 (p : List Bs) (q : List Q0) (u : (List Int)) (B : Int) (D : List Q0) (E : Int) : Option (((List Q0)) ⊕ ((List Q1) × (List Q0) × (List Bs) × (List Int) × Int)) := iter (fun t_ : (List Q0) × Int => Q9.l1b p q u B t_.1 t_.2) (D, E)
noncomputable def Q9.l0b (q : (List Int)) (u p : Int) : Option ((Int × Int) ⊕ ((Int) ⊕ ((List Q1) × (List Q0) × (List Bs) × (List Int) × Int))) :=
 if p < (q.length : Int) then
 jn (
 if (0 : Int) ≤ p ∧ p < (q.length : Int) then
 if u ≤ gt q p then
 some (.inl (IntKind.i64.wrap (gt q p + 1)))
 else
 some (.inl u)
 else none) (fun (B : Int) =>
 nx (B, IntKind.i64.wrap (p + 1)))
 else
 dn (.inl u)
noncomputable def Q9.l0 (p : (List Int)) (q u : Int) : Option ((Int) ⊕ ((List Q1) × (List Q0) × (List Bs) × (List Int) × Int)) := iter (fun t_ : Int × Int => Q9.l0b p t_.1 t_.2) (q, u)
noncomputable def Q9.f (E : Int) (q : List Bs) (B : List Q0) (D : List Q1) : Option ((List Q1) × (List Q0) × (List Bs) × (List Int) × Int) :=
 (Q15.f E q B D).bind fun p =>
 if (p.length : Int) = 0 then
 some (([] : List Q1), ([] : List Q0), ([] : List Bs), ([] : List Int), 0)
 else
 if (([] : List Bs).length + q.length) * 16 ≤ 140737488355328 then
 jn (Q9.l0 p 0 0) (fun (u : Int) =>
 jn (Q9.l1 q B p u ([] : List Q0) 0) (fun (G : List Q0) =>
 jn (Q9.l2 D p u ([] : List Q1) 0) (fun (I : List Q1) =>
 some (I, G, (([] : List Bs) ++ q), p, u))))
 else none
theorem Q9.callee : Callee Tryz.prog 13 := ⟨_, Tryz.func13, by kernel_rfl, by kernel_rfl⟩
theorem Q9.spec {e6 : Int} {B : List Bs} {O : List Q0} {V : List Q1} (hr0_1 : RdS Fl.bs.rep R.heap A0_1 B) (hn0_1 : B.length = n0_1) (hc0_1 : n0_1 ≤ c0_1) (hr0_2 : RdS Q0.fl.rep R.heap A0_2 O) (hn0_2 : O.length = n0_2) (hc0_2 : n0_2 ≤ c0_2) (hr0_3 : RdS Q1.rep R.heap A0_3 V) (hn0_3 : V.length = n0_3) (hc0_3 : n0_3 ≤ c0_3) {r : (List Q1) × (List Q0) × (List Bs) × (List Int) × Int} (j : Q9.f e6 B O V = some r) :
 Spec Tryz.prog 13 [.agg #[i6 e6, .slice A0_1 n0_1 c0_1, .slice A0_2 n0_2 c0_2, .slice A0_3 n0_3 c0_3]] R (Fr) (fun v l' => ∃ (h0 : Nat) (q0 : Option Addr) (q2 : Nat) (h1 : Nat) (q3 : Option Addr) (q4 : Nat) (h2 : Nat) (q7 : Option Addr) (q8 : Nat) (h3 : Nat) (q9 : Option Addr) (r0 : Nat), v = .tuple #[.agg #[i6 r.2.2.2.2, .slice q7 h2 q8, .slice q3 h1 q4, .slice q0 h0 q2], .slice q9 h3 r0] ∧ row Fl.bs 9 q7 h2 q8 r.2.2.1 :: row Q0.fl 35 q3 h1 q4 r.2.1 :: grow Q1.ow 37 q0 h0 q2 r.1 :: row (Fl.int .i64) 3 q9 h3 r0 r.2.2.2.1 :: Fr = l' ∧ r.1.length = h0 ∧ r.2.1.length = h1 ∧ r.2.2.1.length = h2 ∧ r.2.2.2.1.length = h3) := by
 subst hn0_1; subst hn0_2; subst hn0_3; refine Spec.of Tryz.func13 rfl rfl ?_; unfold Q9.f at j; have j := brun j; refine At.seq (At.region ?_); refine At.box rfl rfl (cs := [i6 e6, .slice A0_1 B.length c0_1, .slice A0_2 O.length c0_2, .slice A0_3 V.length c0_3]) rfl rfl (fun L => ?_); refine At.alloc rfl rfl rfl (fun I => ?_); refine At.run 1 rfl (nT (At.seq (At.region (At.y (Y.load rfl rfl (.s .z) rfl rfl rfl) rfl rfl rfl ?_)))); obtain ⟨p, s6, j⟩ := bbind j; refine At.call rfl Q15.callee rfl rfl rfl (Q15.spec hr0_1 rfl hc0_1 hr0_2 rfl hc0_2 hr0_3 rfl hc0_3 s6) ?_; rintro _ _ ⟨E4, E, G, rfl, rfl, rfl⟩; refine At.run 1 rfl (nT (At.seq (sR 3 rfl (At.nil ?_)))); refine At.thn ?_; rcases bite j with ⟨h4, j⟩ | ⟨h4, j⟩
 ··refine At.condT rfl (decide_eq_true h4) ?_
   refine At.seq (At.region ?_); refine At.y (Y.build (is := []) (xo := []) (vs := []) (cs := [i6 0, .slice none 0 0, .slice none 0 0, .slice none 0 0]) rfl rfl rfl rfl rfl rfl) rfl rfl rfl ?_; refine At.store rfl rfl rfl rfl (.s .z) rfl rfl rfl (.c (.c (.c (.c .n)))) ?_; refine At.run 1 rfl (nT (At.ret (At.thr ?_))); refine At.nilRow (Fl.int .i64) 3 ?_; refine At.nilRow Fl.bs 9 ?_; refine At.nilRow Q0.fl 35 ?_; refine At.nilGrow Q1.ow 37 ?_; refine At.resM (.inl rfl) rfl (RV.cell rfl rfl (.s (.s (.s (.s .z)))) rfl rfl rfl (RV.tmp rfl RV.nil)) ?_; refine At.drop (.s (.s (.s (.s .z)))) (At.drop (.s (.s (.s (.s .z)))) (At.drop (.s (.s (.s (.s .z)))) (At.f3 (At.f1 (At.f2 (At.f3 ?_)))))); cases bret j; exact fun a w e hs => ⟨_, ⟨0, none, 0, 0, none, 0, 0, none, 0, 0, none, 0, rfl, rfl, rfl, rfl, rfl, rfl⟩, hs⟩
 ··refine At.condF rfl (decide_eq_false h4) ?_
   refine At.skip (At.thn (At.seq (At.region ?_))); refine At.lit rfl (xo := []) (ys := ([] : List Bs)) Fl.bs rfl rfl rfl rfl rfl rfl rfl rfl rfl rfl rfl (fun E5 E6 => ?_); refine At.run 1 rfl (At.y (Y.load rfl rfl (.s (.s (.s .z))) rfl rfl rfl) rfl rfl rfl ?_); obtain ⟨s7, j⟩ := bnone j; refine At.appendAll rfl .z (SrcE.rd hr0_1) rfl rfl rfl rfl rfl rfl rfl rfl rfl s7 (by decide) rfl (fun Z a0 => ?_); refine At.y (Y.build (is := [1]) (xo := [.tmp 27]) (vs := [.slice Z ((([] : List Bs) ++ B).length) a0]) (cs := [i6 0, .slice Z ((([] : List Bs) ++ B).length) a0, .slice none 0 0, .slice none 0 0]) rfl rfl rfl rfl rfl rfl) rfl rfl rfl ?_; refine At.alloc rfl rfl rfl (fun u => ?_); refine At.store rfl rfl rfl rfl .z rfl rfl rfl (.c (.c (.c (.c .n)))) ?_; refine nT (At.seq (sR 1 rfl (nT ?_))); refine At.block ?_; obtain ⟨s8, s9, E7, j⟩ := bjoin j; obtain ⟨h5, h6, t0⟩ := bsome j; clear j; unfold Q9.l0 at h6; obtain ⟨h7, d0⟩ := Q12.1 h6; clear h6; let T5 : HProp := row Fl.bs 9 Z ((([] : List Bs) ++ B).length) a0 (([] : List Bs) ++ B); let T6 : HProp := row (Fl.int .i64) 3 E p.length G p; let T7 : HProp := pc I [i6 0, .slice none 0 0, .slice none 0 0, .slice none 0 0] 26; let T8 : HProp := pc L [i6 e6, .slice A0_1 B.length c0_1, .slice A0_2 O.length c0_2, .slice A0_3 V.length c0_3] 26; refine At.loopJ (X := Int × Int) (Y := Int) (e0 := 0) (fun s_ => [(1, bp L), (2, bp I), (4, .slice E p.length G), (5, bp u), (6, i6 s_.2)]) (fun s_ => pc u [i6 s_.1, .slice Z ((([] : List Bs) ++ B).length) a0, .slice none 0 0, .slice none 0 0] 26 :: T5 :: T6 :: T7 :: T8 :: Fr) (fun m_ => fun s_ => iterN (fun t_ : Int × Int => Q9.l0b p t_.1 t_.2) m_ (s_.1, s_.2) = some h5) h7 (0, 0) d0 (fun D => [(1, bp L), (2, bp I), (4, .slice E p.length G), (5, bp u)]) (fun D => pc u [i6 D, .slice Z ((([] : List Bs) ++ B).length) a0, .slice none 0 0, .slice none 0 0] 26 :: T5 :: T6 :: T7 :: T8 :: Fr) (fun D => s8 (.inl D) = some r) (fun a w e hs => ⟨e.sub ⟨rfl, rfl, rfl, rfl, rfl, trivial⟩, (by exact hs)⟩) ?_ (fun t1 => ?_)
   ·rintro D j; have j := (s9 _).symm.trans j
    ·refine At.ibx ?_; refine At.thn (At.seq (sR 1 rfl (nT ?_))); refine At.block ?_; obtain ⟨t3, t4, E8, j⟩ := bjoin j; obtain ⟨h8, h9, t5⟩ := bsome j; clear j; unfold Q9.l1 at h9; obtain ⟨k1, d1⟩ := Q12.1 h9; clear h9; refine At.nilRow Q0.fl 35 ?_; refine At.loopJ (X := (List Q0) × Int × Nat × (Option Addr) × Nat) (Y := (List Q0) × Nat × (Option Addr) × Nat) (e0 := 2) (fun s_ => [(1, bp L), (2, bp I), (4, .slice E p.length G), (5, bp u), (7, i6 s_.2.1)]) (fun s_ => row Q0.fl 35 s_.2.2.2.1 s_.2.2.1 s_.2.2.2.2 s_.1 :: pc u [i6 D, .slice Z ((([] : List Bs) ++ B).length) a0, .slice s_.2.2.2.1 s_.2.2.1 s_.2.2.2.2, .slice none 0 0] 26 :: T5 :: T6 :: T7 :: T8 :: Fr) (fun m_ => fun s_ => iterN (fun t_ : (List Q0) × Int => Q9.l1b B O p D t_.1 t_.2) m_ (s_.1, s_.2.1) = some h8 ∧ s_.1.length = s_.2.2.1) k1 (([] : List Q0), 0, 0, none, 0) ⟨d1, rfl⟩ (fun s_ => [(1, bp L), (2, bp I), (4, .slice E p.length G), (5, bp u)]) (fun s_ => row Q0.fl 35 s_.2.2.1 s_.2.1 s_.2.2.2 s_.1 :: pc u [i6 D, .slice Z ((([] : List Bs) ++ B).length) a0, .slice s_.2.2.1 s_.2.1 s_.2.2.2, .slice none 0 0] 26 :: T5 :: T6 :: T7 :: T8 :: Fr) (fun s_ => t3 (.inl s_.1) = some r ∧ s_.1.length = s_.2.1) (fun a w e hs => ⟨e.sub ⟨rfl, rfl, rfl, rfl, rfl, trivial⟩, (by exact hs)⟩) ?_ (fun t6 => ?_)
     ·rintro ⟨b4, t7, d2, d3⟩ ⟨j, t8⟩; obtain rfl : b4.length = t7 := t8; have j := (t4 _).symm.trans j
      ·refine At.ibx ?_; refine At.thn (At.seq (sR 1 rfl (nT ?_))); refine At.block ?_; obtain ⟨t9, u0, E9, j⟩ := bjoin j; obtain ⟨k2, k3, u1⟩ := bsome j; clear j; unfold Q9.l2 at k3; obtain ⟨k4, d4⟩ := Q12.1 k3; clear k3; refine At.nilGrow Q1.ow 37 ?_; let T9 : HProp := row Q0.fl 35 d2 b4.length d3 b4; refine At.loopJ (X := (List Q1) × Int × Nat × (Option Addr) × Nat) (Y := (List Q1) × Nat × (Option Addr) × Nat) (e0 := 10) (fun s_ => [(1, bp L), (2, bp I), (4, .slice E p.length G), (5, bp u), (13, i6 s_.2.1)]) (fun s_ => grow Q1.ow 37 s_.2.2.2.1 s_.2.2.1 s_.2.2.2.2 s_.1 :: T9 :: pc u [i6 D, .slice Z ((([] : List Bs) ++ B).length) a0, .slice d2 b4.length d3, .slice s_.2.2.2.1 s_.2.2.1 s_.2.2.2.2] 26 :: T5 :: T6 :: T7 :: T8 :: Fr) (fun m_ => fun s_ => iterN (fun t_ : (List Q1) × Int => Q9.l2b V p D t_.1 t_.2) m_ (s_.1, s_.2.1) = some k2 ∧ s_.1.length = s_.2.2.1) k4 (([] : List Q1), 0, 0, none, 0) ⟨d4, rfl⟩ (fun s_ => [(2, bp I), (4, .slice E p.length G), (5, bp u)]) (fun s_ => grow Q1.ow 37 s_.2.2.1 s_.2.1 s_.2.2.2 s_.1 :: T9 :: pc u [i6 D, .slice Z ((([] : List Bs) ++ B).length) a0, .slice d2 b4.length d3, .slice s_.2.2.1 s_.2.1 s_.2.2.2] 26 :: T5 :: T6 :: T7 :: T8 :: Fr) (fun s_ => t9 (.inl s_.1) = some r ∧ s_.1.length = s_.2.1) (fun a w e hs => ⟨e.sub ⟨rfl, rfl, rfl, rfl, rfl, trivial⟩, (by exact hs)⟩) ?_ (fun u2 => ?_)
       ·rintro ⟨r1, u3, u4, u5⟩ ⟨j, u6⟩; obtain rfl : r1.length = u3 := u6; have j := (u0 _).symm.trans j
        ·refine At.ibx ?_; refine At.thn (At.seq (At.region (At.y (Y.load rfl rfl (.s (.s .z)) rfl rfl rfl) rfl rfl rfl (At.run 1 rfl ?_)))); refine At.store rfl rfl rfl rfl (.s (.s (.s (.s (.s .z))))) rfl rfl rfl (.c (.c (.c (.c .n)))) ?_; refine At.run 1 rfl (nT (At.ret ?_)); refine At.resM (.inl rfl) rfl (RV.cell rfl rfl .z rfl rfl rfl (RV.tmp rfl RV.nil)) ?_; refine At.drop .z (At.drop (.s (.s .z)) (At.drop (.s (.s (.s (.s .z)))) (At.f3 (At.f1 (At.f2 (At.f3 ?_)))))); cases bret j; exact fun a w e hs => ⟨_, ⟨r1.length, u4, u5, b4.length, d2, d3, (([] : List Bs) ++ B).length, Z, a0, p.length, E, G, rfl, rfl, rfl, rfl, rfl, rfl⟩, hs⟩
       ·clear d4 k4; rintro k4 ⟨a8, U, u7, k5, k6⟩ ⟨d4, u8⟩; obtain rfl : a8.length = u7 := u8; obtain ⟨u9, f_, v0, hf_, j⟩ := bit d4; clear d4; have j : (Q9.l2b V p D a8 U).bind _ = some k2 := j; unfold Q9.l2b at j
        ·refine At.seq (sR 2 rfl ?_); refine At.y (Y.load rfl rfl (.s (.s (.s (.s (.s (.s .z)))))) rfl rfl rfl) rfl rfl rfl ?_; refine At.run 2 rfl (nT ?_); rcases bite j with ⟨k7, j⟩ | ⟨k7, j⟩
         ··refine At.condT rfl (decide_eq_true k7) ?_
           refine At.skip (At.thn (At.seq ?_)); refine At.block ?_; refine sR 1 rfl ?_; refine At.y (Y.load rfl rfl (.s (.s (.s (.s (.s (.s .z)))))) rfl rfl rfl) rfl rfl rfl ?_; refine At.run 1 rfl ?_; obtain ⟨a1, j⟩ := bnone j; refine At.y (Y.ixRd hr0_3 rfl rfl rfl rfl rfl rfl rfl a1.1 a1.2) rfl rfl rfl ?_; refine At.y (Y.fa (RdS.some_ hr0_3 rfl a1.1 a1.2) rfl rfl rfl rfl rfl rfl) rfl rfl rfl ?_; refine At.y (Y.ldPrj Q1.prj_Name hr0_3 rfl rfl rfl a1.1 a1.2 rfl rfl) rfl rfl rfl ?_; refine At.y (Y.build (is := [0]) (xo := [.tmp 126]) (vs := [.string ⟨((gt V U).Name).toArray⟩]) (cs := [.string ⟨((gt V U).Name).toArray⟩, .slice none 0 0]) rfl rfl rfl rfl rfl rfl) rfl rfl rfl ?_; refine At.alloc rfl rfl rfl (fun a7 => ?_); refine At.store rfl rfl rfl rfl .z rfl rfl rfl (.c (.c .n)) ?_; refine nT (At.seq (sR 1 rfl (nT ?_))); refine At.block ?_; obtain ⟨v1, v2, F0, j⟩ := bjoin j; obtain ⟨e7, k8, v3⟩ := bsome j; clear j; unfold Q9.l3 at k8; obtain ⟨k9, d5⟩ := Q12.1 k8; clear k8; refine At.nilRow (Fl.int .i64) 3 ?_; let b5 : HProp := grow Q1.ow 37 k5 a8.length k6 a8; let b6 : HProp := pc u [i6 D, .slice Z ((([] : List Bs) ++ B).length) a0, .slice d2 b4.length d3, .slice k5 a8.length k6] 26; refine At.loopJ (X := (List Int) × Int × Nat × (Option Addr) × Nat) (Y := (List Int) × Nat × (Option Addr) × Nat) (e0 := 12) (fun s_ => [(1, bp L), (2, bp I), (4, .slice E p.length G), (5, bp u), (13, i6 U), (14, bp a7), (15, i6 s_.2.1)]) (fun s_ => row (Fl.int .i64) 3 s_.2.2.2.1 s_.2.2.1 s_.2.2.2.2 s_.1 :: pc a7 [.string ⟨((gt V U).Name).toArray⟩, .slice s_.2.2.2.1 s_.2.2.1 s_.2.2.2.2] 37 :: b5 :: T9 :: b6 :: T5 :: T6 :: T7 :: T8 :: Fr) (fun m_ => fun s_ => iterN (fun t_ : (List Int) × Int => Q9.l3b V p D U t_.1 t_.2) m_ (s_.1, s_.2.1) = some e7 ∧ s_.1.length = s_.2.2.1) k9 (([] : List Int), 0, 0, none, 0) ⟨d5, rfl⟩ (fun s_ => [(1, bp L), (2, bp I), (4, .slice E p.length G), (5, bp u), (13, i6 U), (14, bp a7)]) (fun s_ => row (Fl.int .i64) 3 s_.2.2.1 s_.2.1 s_.2.2.2 s_.1 :: pc a7 [.string ⟨((gt V U).Name).toArray⟩, .slice s_.2.2.1 s_.2.1 s_.2.2.2] 37 :: b5 :: T9 :: b6 :: T5 :: T6 :: T7 :: T8 :: Fr) (fun s_ => v1 (.inl s_.1) = some k2 ∧ s_.1.length = s_.2.1) (fun a w e hs => ⟨e.sub ⟨rfl, rfl, rfl, rfl, rfl, rfl, rfl, trivial⟩, (by exact hs)⟩) ?_ (fun v4 => ?_)
           ·rintro ⟨e8, v5, v6, v7⟩ ⟨j, v8⟩; obtain rfl : e8.length = v5 := v8; have j := (v2 _).symm.trans j
            ·refine At.ibx ?_; refine At.thn (At.region (At.run 1 rfl ?_)); refine At.y (Y.load rfl rfl (.s (.s (.s (.s .z)))) rfl rfl rfl) rfl rfl rfl ?_; refine At.y (Y.load rfl rfl (.s .z) rfl rfl rfl) rfl rfl rfl ?_; refine At.lit rfl (xo := [.tmp 171]) (ys := ([rawOf (Q1.ow).sz [.string ⟨((gt V U).Name).toArray⟩, .slice v6 e8.length v7] rfl rfl] : List (Raw (Q1.ow).sz))) (Fl.raw (Q1.ow).sz (Q1.ow).pos) rfl rfl rfl rfl rfl rfl rfl rfl rfl rfl rfl (fun F1 F2 => ?_); obtain ⟨v9, j⟩ := bnone j; refine At.f1 (At.f1 (At.f3 ?_)); refine At.appendGrow (T := Q1.ow) rfl rfl Q1.ent rfl rfl rfl rfl rfl rfl rfl rfl rfl v9 (by decide) rfl (fun w0 w1 => ?_); refine At.run 1 rfl ?_; refine At.store rfl rfl rfl rfl (.s (.s (.s .z))) rfl rfl rfl (.s (.s (.s (.c .n)))) ?_; refine At.nil ?_; refine At.ibn ?_; refine At.thn (At.region (At.run 3 rfl (At.nil (At.drop (.s (.s .z)) (At.f6 (At.f6 (At.f6 ?_))))))); refine At.f6 (At.f4 (At.f6 (At.f6 ?_))); have j := bnx hf_ j; exact fun a w e hs => ⟨u9, ((a8 ++ [(⟨((gt V U).Name), e8⟩ : Q1)]), IntKind.i64.wrap (U + 1), (a8 ++ [(⟨((gt V U).Name), e8⟩ : Q1)]).length, w0, w1), v0, ⟨j, rfl⟩, e.sub ⟨rfl, rfl, rfl, rfl, rfl, trivial⟩, hs⟩
           ·clear d5 k9; rintro k9 ⟨a5, a4, w2, e9, f0⟩ ⟨d5, w3⟩; obtain rfl : a5.length = w2 := w3; obtain ⟨w4, f_, w5, hf_, j⟩ := bit d5; clear d5; have j : (Q9.l3b V p D U a5 a4).bind _ = some e7 := j; unfold Q9.l3b at j
            ·refine At.seq (sR 2 rfl ?_); refine At.y (Y.load rfl rfl (.s (.s (.s (.s .z)))) rfl rfl rfl) rfl rfl rfl ?_; refine At.run 1 rfl (nT ?_); rcases bite j with ⟨m0, j⟩ | ⟨m0, j⟩
             ··refine At.condT rfl (decide_eq_true m0) ?_
               refine At.skip (At.thn (At.seq ?_)); obtain ⟨w6, w7, F3, j⟩ := bjoin j; refine At.join (X := (List Int) × Nat × (Option Addr) × Nat) (fun s_ => [(1, bp L), (2, bp I), (4, .slice E p.length G), (5, bp u), (13, i6 U), (14, bp a7), (15, i6 a4)]) (fun s_ => pc a7 [.string ⟨((gt V U).Name).toArray⟩, .slice s_.2.2.1 s_.2.1 s_.2.2.2] 37 :: row (Fl.int .i64) 3 s_.2.2.1 s_.2.1 s_.2.2.2 s_.1 :: b5 :: T9 :: b6 :: T5 :: T6 :: T7 :: T8 :: Fr) (fun s_ => w6 (.inl s_.1) = some e7 ∧ s_.1.length = s_.2.1) ?_ (fun r2 => ?_)
               ·rintro ⟨m1, w8, w9, x0⟩ ⟨j, x1⟩; obtain rfl : m1.length = w8 := x1; have j := (w7 _).symm.trans j
                ·refine At.region (At.run 3 rfl (At.nil (At.f8 (At.f8 (At.f8 (At.f8 (At.f8 ?_))))))); refine At.f8 (At.f8 (At.f7 (At.f8 ?_))); have j := bnx hf_ j; exact fun a w e hs => ⟨w4, (m1, IntKind.i64.wrap (a4 + 1), m1.length, w9, x0), w5, ⟨j, rfl⟩, e.sub ⟨rfl, rfl, rfl, rfl, rfl, rfl, rfl, trivial⟩, hs⟩
               ··refine At.block ?_
                 refine sR 1 rfl (nT (At.seq (At.seq (At.region ?_)))); refine At.run 1 rfl (nT ?_); refine At.block ?_; obtain ⟨x2, x3, F4, j⟩ := bjoin j; obtain ⟨m2, m3, x4⟩ := bsome j; clear j; unfold Q9.l4 at m3; obtain ⟨m4, d6⟩ := Q12.1 m3; clear m3; let m5 : HProp := row (Fl.int .i64) 3 e9 a5.length f0 a5; let m6 : HProp := pc a7 [.string ⟨((gt V U).Name).toArray⟩, .slice e9 a5.length f0] 37; refine At.loopJ (X := Bool × Int) (Y := Bool) (e0 := 14) (fun s_ => [(1, bp L), (2, bp I), (4, .slice E p.length G), (5, bp u), (13, i6 U), (14, bp a7), (15, i6 a4), (16, .bool s_.1), (17, i6 s_.2)]) (fun s_ => m5 :: m6 :: b5 :: T9 :: b6 :: T5 :: T6 :: T7 :: T8 :: Fr) (fun m_ => fun s_ => iterN (fun t_ : Bool × Int => Q9.l4b V p U a4 t_.1 t_.2) m_ (s_.1, s_.2) = some m2) m4 (false, 0) d6 (fun d7 => [(1, bp L), (2, bp I), (4, .slice E p.length G), (5, bp u), (13, i6 U), (14, bp a7), (15, i6 a4), (16, .bool d7)]) (fun d7 => m5 :: m6 :: b5 :: T9 :: b6 :: T5 :: T6 :: T7 :: T8 :: Fr) (fun d7 => x2 (.inl d7) = some e7) (fun a w e hs => ⟨e.sub ⟨rfl, rfl, rfl, rfl, rfl, rfl, rfl, rfl, rfl, trivial⟩, (by exact hs)⟩) ?_ (fun x5 => ?_)
                 ·rintro d7 j; have j := (x3 _).symm.trans j
                  ·refine At.ibx ?_; refine At.thn (sR 1 rfl (nT ?_)); rcases bite j with ⟨m7, j⟩ | ⟨m7, j⟩
                   ··refine At.condT rfl m7 ?_
                     refine At.region (At.run 1 rfl (At.y (Y.load rfl rfl (.s .z) rfl rfl rfl) rfl rfl rfl (At.run 1 rfl ?_))); refine At.lit rfl (xo := [.tmp 165]) (ys := ([a4] : List Int)) (Fl.int .i64) rfl rfl rfl rfl rfl rfl rfl rfl rfl rfl rfl (fun F5 F6 => ?_); obtain ⟨x6, j⟩ := bnone j; refine At.append rfl (.s .z) (Src.own .z (by simp)) rfl rfl rfl rfl rfl rfl rfl rfl x6 (by decide) rfl (fun x7 x8 => ?_); refine At.drop (.s .z) (At.run 1 rfl ?_); refine At.store rfl rfl rfl rfl (.s .z) rfl rfl rfl (.s (.c .n)) ?_; refine At.nil ?_; refine At.ibn ?_; refine At.thn ?_; exact fun a w e hs => r2 ((a5 ++ ([a4] : List Int)), (a5 ++ ([a4] : List Int)).length, x7, x8) ⟨j, rfl⟩ a w (e.sub ⟨rfl, rfl, rfl, rfl, rfl, rfl, rfl, trivial⟩) hs
                   ··refine At.condF rfl (bn m7) ?_
                     refine At.skip ?_; refine At.ibn ?_; refine At.thn (At.f8 (At.f8 (At.f8 (At.f8 (At.f8 (At.f8 (At.f8 ?_))))))); refine At.f7 (At.f8 ?_); exact fun a w e hs => r2 (a5, a5.length, e9, f0) ⟨j, rfl⟩ a w (e.sub ⟨rfl, rfl, rfl, rfl, rfl, rfl, rfl, trivial⟩) hs
                 ·clear d6 m4; rintro m4 ⟨r3, f9⟩ d6; obtain ⟨x9, f_, y0, hf_, j⟩ := bit d6; clear d6; have j : (Q9.l4b V p U a4 r3 f9).bind _ = some m2 := j; unfold Q9.l4b at j
                  ·refine At.seq (sR 2 rfl ?_); refine At.y (Y.load rfl rfl (.s (.s (.s (.s (.s (.s (.s (.s .z)))))))) rfl rfl rfl) rfl rfl rfl ?_; refine At.run 1 rfl (At.y (Y.ixRd hr0_3 rfl rfl rfl rfl rfl rfl rfl a1.1 a1.2) rfl rfl rfl ?_); refine At.y (Y.fa (RdS.some_ hr0_3 rfl a1.1 a1.2) rfl rfl rfl rfl rfl rfl) rfl rfl rfl ?_; obtain ⟨F7, F8, F9, G0, y1⟩ := RdS.prjSl (P := Tryz.prog) Q1.prj_States hr0_3 (Sub.refl _) rfl a1.1 a1.2; refine At.y (y1 rfl rfl rfl rfl) rfl rfl rfl ?_; refine At.run 2 rfl (nT ?_); rcases bite j with ⟨m8, j⟩ | ⟨m8, j⟩
                   ··refine At.condT rfl (decide_eq_true m8) ?_
                     refine At.skip (At.thn (At.seq ?_)); refine At.block ?_; refine At.region (At.run 2 rfl ?_); obtain ⟨y2, y3, G1, j⟩ := bjoin j; refine At.joinO 15 (X := Bool) (fun b7 => [(1, bp L), (2, bp I), (4, .slice E p.length G), (5, bp u), (13, i6 U), (14, bp a7), (15, i6 a4), (17, i6 f9), (161, .bool b7)]) (fun b7 => m5 :: m6 :: b5 :: T9 :: b6 :: T5 :: T6 :: T7 :: T8 :: Fr) (fun b7 => y2 (.inl b7) = some m2) ?_ (fun r4 => ?_)
                     ·rintro b7 j; have j := (y3 _).symm.trans j
                      ·refine At.run 1 rfl (At.nil ?_); refine At.ibn ?_; refine At.thn (At.region (At.run 3 rfl (At.nil ?_))); have j := bnx hf_ j; exact fun a w e hs => ⟨x9, (b7, IntKind.i64.wrap (f9 + 1)), y0, j, e.sub ⟨rfl, rfl, rfl, rfl, rfl, rfl, rfl, rfl, rfl, trivial⟩, hs⟩
                     ··rcases bite j with ⟨m9, j⟩ | ⟨m9, j⟩
                       ··refine At.know (t := 146) rfl m9 ?_
                         refine At.run 15 rfl ?_; exact At.of (r4 true j) ⟨rfl, rfl, rfl, rfl, rfl, rfl, rfl, rfl, rfl, trivial⟩
                       ··refine At.know (t := 146) rfl (bn m9) ?_
                         refine At.run 2 rfl ?_; refine At.y (Y.load rfl rfl (.s (.s (.s (.s (.s (.s (.s (.s .z)))))))) rfl rfl rfl) rfl rfl rfl ?_; refine At.run 1 rfl (At.y (Y.ixRd hr0_3 rfl rfl rfl rfl rfl rfl rfl a1.1 a1.2) rfl rfl rfl ?_); refine At.y (Y.fa (RdS.some_ hr0_3 rfl a1.1 a1.2) rfl rfl rfl rfl rfl rfl) rfl rfl rfl ?_; obtain ⟨G2, G3, G4, r5, y4⟩ := RdS.prjSl (P := Tryz.prog) Q1.prj_States hr0_3 (Sub.refl _) rfl a1.1 a1.2; refine At.y (y4 rfl rfl rfl rfl) rfl rfl rfl ?_; refine At.run 1 rfl ?_; obtain ⟨g0, j⟩ := bnone j; refine At.y (Y.ixRd r5 rfl rfl rfl rfl rfl rfl rfl g0.1 g0.2) rfl rfl rfl (At.y (Y.ldFl r5 rfl (q := 0) rfl rfl g0.1 g0.2 rfl rfl rfl) rfl rfl rfl ?_); obtain ⟨g1, j⟩ := bnone j; refine At.y (Y.ix (.s (.s (.s (.s (.s (.s .z)))))) rfl rfl rfl rfl rfl rfl g1.1 g1.2) rfl rfl rfl ?_; refine At.y (Y.ld (.s (.s (.s (.s (.s (.s .z)))))) (q := 0) rfl rfl g1.1 g1.2 rfl rfl rfl) rfl rfl rfl ?_; refine At.run 3 rfl ?_; exact At.of (r4 (decide (gt p (gt ((gt V U).States) f9) = a4)) j) ⟨rfl, rfl, rfl, rfl, rfl, rfl, rfl, rfl, rfl, trivial⟩
                   ··refine At.condF rfl (decide_eq_false m8) ?_
                     refine At.exit ?_; refine At.the ?_; refine At.the ?_; exact fun a w e hs => x5 r3 (bdn j x4) a w (e.sub ⟨rfl, rfl, rfl, rfl, rfl, rfl, rfl, rfl, trivial⟩) hs
             ··refine At.condF rfl (decide_eq_false m0) ?_
               refine At.exit ?_; refine At.the ?_; refine At.the ?_; exact fun a w e hs => v4 (a5, a5.length, e9, f0) ⟨(bdn j v3), rfl⟩ a w (e.sub ⟨rfl, rfl, rfl, rfl, rfl, rfl, trivial⟩) hs
         ··refine At.condF rfl (decide_eq_false k7) ?_
           refine At.exit ?_; refine At.the ?_; refine At.the ?_; exact fun a w e hs => u2 (a8, a8.length, k5, k6) ⟨(bdn j u1), rfl⟩ a w (e.sub ⟨rfl, rfl, rfl, trivial⟩) hs
     ·clear d1 k1; rintro k1 ⟨b8, J, y5, r6, r7⟩ ⟨d1, y6⟩; obtain rfl : b8.length = y5 := y6; obtain ⟨y7, f_, y8, hf_, j⟩ := bit d1; clear d1; have j : (Q9.l1b B O p D b8 J).bind _ = some h8 := j; unfold Q9.l1b at j
      ·refine At.seq (sR 2 rfl (At.y (Y.load rfl rfl (.s .z) rfl rfl rfl) rfl rfl rfl (At.run 1 rfl (nT ?_)))); rcases bite j with ⟨n2, j⟩ | ⟨n2, j⟩
       ··refine At.condT rfl (decide_eq_true n2) ?_
         refine At.skip (At.thn (At.seq ?_)); refine At.block ?_; refine sR 1 rfl (nT ?_); refine At.block ?_; obtain ⟨y9, z0, G5, j⟩ := bjoin j; obtain ⟨n3, n4, z1⟩ := bsome j; clear j; unfold Q9.l5 at n4; obtain ⟨n5, d8⟩ := Q12.1 n4; clear n4; refine At.loopJ (X := (List Q0) × Int × Nat × (Option Addr) × Nat) (Y := (List Q0) × Nat × (Option Addr) × Nat) (e0 := 4) (fun s_ => [(1, bp L), (2, bp I), (4, .slice E p.length G), (5, bp u), (7, i6 J), (8, i6 s_.2.1)]) (fun s_ => row Q0.fl 35 s_.2.2.2.1 s_.2.2.1 s_.2.2.2.2 s_.1 :: pc u [i6 D, .slice Z ((([] : List Bs) ++ B).length) a0, .slice s_.2.2.2.1 s_.2.2.1 s_.2.2.2.2, .slice none 0 0] 26 :: T5 :: T6 :: T7 :: T8 :: Fr) (fun m_ => fun s_ => iterN (fun t_ : (List Q0) × Int => Q9.l5b B O p D J t_.1 t_.2) m_ (s_.1, s_.2.1) = some n3 ∧ s_.1.length = s_.2.2.1) n5 (b8, 0, b8.length, r6, r7) ⟨d8, rfl⟩ (fun s_ => [(1, bp L), (2, bp I), (4, .slice E p.length G), (5, bp u), (7, i6 J)]) (fun s_ => row Q0.fl 35 s_.2.2.1 s_.2.1 s_.2.2.2 s_.1 :: pc u [i6 D, .slice Z ((([] : List Bs) ++ B).length) a0, .slice s_.2.2.1 s_.2.1 s_.2.2.2, .slice none 0 0] 26 :: T5 :: T6 :: T7 :: T8 :: Fr) (fun s_ => y9 (.inl s_.1) = some h8 ∧ s_.1.length = s_.2.1) (fun a w e hs => ⟨e.sub ⟨rfl, rfl, rfl, rfl, rfl, rfl, trivial⟩, (by exact hs)⟩) ?_ (fun z2 => ?_)
         ·rintro ⟨n6, z3, z4, z5⟩ ⟨j, z6⟩; obtain rfl : n6.length = z3 := z6; have j := (z0 _).symm.trans j
          ·refine At.ibx ?_; refine At.ibn ?_; refine At.thn (At.region (At.run 3 rfl (At.nil ?_))); have j := bnx hf_ j; exact fun a w e hs => ⟨y7, (n6, IntKind.i64.wrap (J + 1), n6.length, z4, z5), y8, ⟨j, rfl⟩, e.sub ⟨rfl, rfl, rfl, rfl, rfl, trivial⟩, hs⟩
         ·clear d8 n5; rintro n5 ⟨b9, N, z7, r8, r9⟩ ⟨d8, z8⟩; obtain rfl : b9.length = z7 := z8; obtain ⟨z9, f_, A2, hf_, j⟩ := bit d8; clear d8; have j : (Q9.l5b B O p D J b9 N).bind _ = some n3 := j; unfold Q9.l5b at j
          ·refine At.seq (sR 2 rfl ?_); refine At.y (Y.load rfl rfl (.s (.s (.s (.s (.s .z))))) rfl rfl rfl) rfl rfl rfl ?_; refine At.run 2 rfl (nT ?_); rcases bite j with ⟨n7, j⟩ | ⟨n7, j⟩
           ··refine At.condT rfl (decide_eq_true n7) ?_
             refine At.skip (At.thn (At.seq ?_)); refine At.block ?_; refine sR 1 rfl (nT ?_); refine At.block ?_; obtain ⟨A3, A4, G6, j⟩ := bjoin j; obtain ⟨g2, n8, A5⟩ := bsome j; clear j; unfold Q9.l6 at n8; obtain ⟨n9, d9⟩ := Q12.1 n8; clear n8; refine At.loopJ (X := (List Q0) × Int × Nat × (Option Addr) × Nat) (Y := (List Q0) × Nat × (Option Addr) × Nat) (e0 := 6) (fun s_ => [(1, bp L), (2, bp I), (4, .slice E p.length G), (5, bp u), (7, i6 J), (8, i6 N), (9, i6 s_.2.1)]) (fun s_ => row Q0.fl 35 s_.2.2.2.1 s_.2.2.1 s_.2.2.2.2 s_.1 :: pc u [i6 D, .slice Z ((([] : List Bs) ++ B).length) a0, .slice s_.2.2.2.1 s_.2.2.1 s_.2.2.2.2, .slice none 0 0] 26 :: T5 :: T6 :: T7 :: T8 :: Fr) (fun m_ => fun s_ => iterN (fun t_ : (List Q0) × Int => Q9.l6b O p D J N t_.1 t_.2) m_ (s_.1, s_.2.1) = some g2 ∧ s_.1.length = s_.2.2.1) n9 (b9, 0, b9.length, r8, r9) ⟨d9, rfl⟩ (fun s_ => [(1, bp L), (2, bp I), (4, .slice E p.length G), (5, bp u), (7, i6 J), (8, i6 N)]) (fun s_ => row Q0.fl 35 s_.2.2.1 s_.2.1 s_.2.2.2 s_.1 :: pc u [i6 D, .slice Z ((([] : List Bs) ++ B).length) a0, .slice s_.2.2.1 s_.2.1 s_.2.2.2, .slice none 0 0] 26 :: T5 :: T6 :: T7 :: T8 :: Fr) (fun s_ => A3 (.inl s_.1) = some n3 ∧ s_.1.length = s_.2.1) (fun a w e hs => ⟨e.sub ⟨rfl, rfl, rfl, rfl, rfl, rfl, rfl, trivial⟩, (by exact hs)⟩) ?_ (fun A6 => ?_)
             ·rintro ⟨o0, A7, A8, A9⟩ ⟨j, B0⟩; obtain rfl : o0.length = A7 := B0; have j := (A4 _).symm.trans j
              ·refine At.ibx ?_; refine At.ibn ?_; refine At.thn (At.region (At.run 3 rfl (At.nil ?_))); have j := bnx hf_ j; exact fun a w e hs => ⟨z9, (o0, IntKind.i64.wrap (N + 1), o0.length, A8, A9), A2, ⟨j, rfl⟩, e.sub ⟨rfl, rfl, rfl, rfl, rfl, rfl, trivial⟩, hs⟩
             ·clear d9 n9; rintro n9 ⟨a6, a2, B1, g3, g4⟩ ⟨d9, B2⟩; obtain rfl : a6.length = B1 := B2; obtain ⟨B3, f_, B4, hf_, j⟩ := bit d9; clear d9; have j : (Q9.l6b O p D J N a6 a2).bind _ = some g2 := j; unfold Q9.l6b at j
              ·refine At.seq (sR 2 rfl (At.y (Y.load rfl rfl (.s .z) rfl rfl rfl) rfl rfl rfl (At.run 1 rfl (nT ?_)))); rcases bite j with ⟨o7, j⟩ | ⟨o7, j⟩
               ··refine At.condT rfl (decide_eq_true o7) ?_
                 refine At.skip (At.thn (At.seq ?_)); obtain ⟨B5, B6, G7, j⟩ := bjoin j; refine At.join (X := (List Q0) × Nat × (Option Addr) × Nat) (fun s_ => [(1, bp L), (2, bp I), (4, .slice E p.length G), (5, bp u), (7, i6 J), (8, i6 N), (9, i6 a2)]) (fun s_ => pc u [i6 D, .slice Z ((([] : List Bs) ++ B).length) a0, .slice s_.2.2.1 s_.2.1 s_.2.2.2, .slice none 0 0] 26 :: row Q0.fl 35 s_.2.2.1 s_.2.1 s_.2.2.2 s_.1 :: T5 :: T6 :: T7 :: T8 :: Fr) (fun s_ => B5 (.inl s_.1) = some g2 ∧ s_.1.length = s_.2.1) ?_ (fun s0 => ?_)
                 ·rintro ⟨o8, B7, B9, C0⟩ ⟨j, C1⟩; obtain rfl : o8.length = B7 := C1; have j := (B6 _).symm.trans j
                  ·refine At.region (At.run 3 rfl (At.nil (At.f5 (At.f5 (At.f5 (At.f5 (At.f4 ?_))))))); refine At.f5 ?_; have j := bnx hf_ j; exact fun a w e hs => ⟨B3, (o8, IntKind.i64.wrap (a2 + 1), o8.length, B9, C0), B4, ⟨j, rfl⟩, e.sub ⟨rfl, rfl, rfl, rfl, rfl, rfl, rfl, trivial⟩, hs⟩
                 ··refine At.block ?_
                   refine sR 1 rfl (nT (At.seq (At.seq (At.region ?_)))); refine At.run 1 rfl (nT ?_); refine At.block ?_; obtain ⟨C2, C3, G8, j⟩ := bjoin j; obtain ⟨e1, o9, C4⟩ := bsome j; clear j; unfold Q9.l7 at o9; obtain ⟨p0, e2⟩ := Q12.1 o9; clear o9; let e3 : HProp := row Q0.fl 35 g3 a6.length g4 a6; let e4 : HProp := pc u [i6 D, .slice Z ((([] : List Bs) ++ B).length) a0, .slice g3 a6.length g4, .slice none 0 0] 26; refine At.loopJ (X := Bool × Int) (Y := Bool) (e0 := 8) (fun s_ => [(1, bp L), (2, bp I), (4, .slice E p.length G), (5, bp u), (7, i6 J), (8, i6 N), (9, i6 a2), (10, .bool s_.1), (11, i6 s_.2)]) (fun s_ => e3 :: e4 :: T5 :: T6 :: T7 :: T8 :: Fr) (fun m_ => fun s_ => iterN (fun t_ : Bool × Int => Q9.l7b O p J N a2 t_.1 t_.2) m_ (s_.1, s_.2) = some e1) p0 (false, 0) e2 (fun e5 => [(1, bp L), (2, bp I), (4, .slice E p.length G), (5, bp u), (7, i6 J), (8, i6 N), (9, i6 a2), (10, .bool e5)]) (fun e5 => e3 :: e4 :: T5 :: T6 :: T7 :: T8 :: Fr) (fun e5 => C2 (.inl e5) = some g2) (fun a w e hs => ⟨e.sub ⟨rfl, rfl, rfl, rfl, rfl, rfl, rfl, rfl, rfl, trivial⟩, (by exact hs)⟩) ?_ (fun C5 => ?_)
                   ·rintro e5 j; have j := (C3 _).symm.trans j
                    ·refine At.ibx ?_; refine At.thn (sR 1 rfl (nT ?_)); rcases bite j with ⟨p1, j⟩ | ⟨p1, j⟩
                     ··refine At.condT rfl p1 ?_
                       refine At.region (At.run 1 rfl (At.y (Y.load rfl rfl (.s .z) rfl rfl rfl) rfl rfl rfl (At.run 3 rfl ?_))); refine At.y (Y.build (is := [0, 1, 2]) (xo := [.tmp 107, .tmp 108, .tmp 109]) (vs := [i6 J, i6 N, i6 a2]) (cs := [i6 J, i6 N, i6 a2]) rfl rfl rfl rfl rfl rfl) rfl rfl rfl ?_; refine At.lit rfl (xo := [.tmp 110]) (ys := ([(⟨J, N, a2⟩ : Q0)] : List Q0)) Q0.fl rfl rfl rfl rfl rfl rfl rfl rfl rfl rfl rfl (fun G9 H0 => ?_); obtain ⟨C6, j⟩ := bnone j; refine At.append rfl (.s .z) (Src.own .z (by simp)) rfl rfl rfl rfl rfl rfl rfl rfl C6 (by decide) rfl (fun C7 C8 => ?_); refine At.drop (.s .z) (At.run 1 rfl ?_); refine At.store rfl rfl rfl rfl (.s .z) rfl rfl rfl (.s (.s (.c .n))) ?_; refine At.nil ?_; refine At.ibn ?_; refine At.thn ?_; exact fun a w e hs => s0 ((a6 ++ ([(⟨J, N, a2⟩ : Q0)] : List Q0)), (a6 ++ ([(⟨J, N, a2⟩ : Q0)] : List Q0)).length, C7, C8) ⟨j, rfl⟩ a w (e.sub ⟨rfl, rfl, rfl, rfl, rfl, rfl, rfl, trivial⟩) hs
                     ··refine At.condF rfl (bn p1) ?_
                       refine At.skip ?_; refine At.ibn ?_; refine At.thn (At.f5 (At.f5 (At.f5 (At.f5 (At.f4 (At.f5 ?_)))))); exact fun a w e hs => s0 (a6, a6.length, g3, g4) ⟨j, rfl⟩ a w (e.sub ⟨rfl, rfl, rfl, rfl, rfl, rfl, rfl, trivial⟩) hs
                   ·clear e2 p0; rintro p0 ⟨s1, a3⟩ e2; obtain ⟨C9, f_, D0, hf_, j⟩ := bit e2; clear e2; have j : (Q9.l7b O p J N a2 s1 a3).bind _ = some e1 := j; unfold Q9.l7b at j
                    ·refine At.seq (sR 2 rfl ?_); refine At.y (Y.load rfl rfl (.s (.s (.s (.s (.s .z))))) rfl rfl rfl) rfl rfl rfl ?_; refine At.run 2 rfl (nT ?_); rcases bite j with ⟨p2, j⟩ | ⟨p2, j⟩
                     ··refine At.condT rfl (decide_eq_true p2) ?_
                       refine At.skip (At.thn (At.seq ?_)); refine At.block ?_; refine sR 1 rfl ?_; refine At.y (Y.load rfl rfl (.s (.s (.s (.s (.s .z))))) rfl rfl rfl) rfl rfl rfl ?_; refine At.run 1 rfl ?_; obtain ⟨g5, j⟩ := bnone j; refine At.y (Y.ixRd hr0_2 rfl rfl rfl rfl rfl rfl rfl g5.1 g5.2) rfl rfl rfl (At.y (Y.ldFl hr0_2 rfl (q := 0) rfl rfl g5.1 g5.2 rfl rfl rfl) rfl rfl rfl ?_); refine At.alloc rfl rfl rfl (fun g6 => ?_); refine At.store rfl rfl rfl rfl .z rfl rfl rfl (.c (.c (.c .n))) ?_; refine nT (At.region (At.run 2 rfl ?_)); obtain ⟨D1, D2, H1, j⟩ := bjoin j; let p3 : HProp := pc g6 [i6 ((gt O a3).From), i6 ((gt O a3).Action), i6 ((gt O a3).To)] 35; refine At.joinO 23 (X := Bool) (fun c8 => [(1, bp L), (2, bp I), (4, .slice E p.length G), (5, bp u), (7, i6 J), (8, i6 N), (9, i6 a2), (11, i6 a3), (103, .bool c8)]) (fun c8 => p3 :: e3 :: e4 :: T5 :: T6 :: T7 :: T8 :: Fr) (fun c8 => D1 (.inl c8) = some e1) ?_ (fun s2 => ?_)
                       ·rintro c8 j; have j := (D2 _).symm.trans j
                        ·refine At.run 1 rfl (At.nil ?_); refine At.ibn ?_; refine At.thn (At.region (At.run 3 rfl (At.nil (At.drop .z ?_)))); have j := bnx hf_ j; exact fun a w e hs => ⟨C9, (c8, IntKind.i64.wrap (a3 + 1)), D0, j, e.sub ⟨rfl, rfl, rfl, rfl, rfl, rfl, rfl, rfl, rfl, trivial⟩, hs⟩
                       ··rcases bite j with ⟨p4, j⟩ | ⟨p4, j⟩
                         ··refine At.know (t := 80) rfl p4 ?_
                           refine At.run 23 rfl ?_; exact At.of (s2 true j) ⟨rfl, rfl, rfl, rfl, rfl, rfl, rfl, rfl, rfl, trivial⟩
                         ··refine At.know (t := 80) rfl (bn p4) ?_
                           refine At.run 1 rfl (At.y (Y.load rfl rfl .z rfl rfl rfl) rfl rfl rfl (At.run 3 rfl ?_)); obtain ⟨D3, D4, H2, j⟩ := bjoin j; refine At.joinO 8 (X := Bool × Bool) (fun s_ => [(1, bp L), (2, bp I), (4, .slice E p.length G), (5, bp u), (7, i6 J), (8, i6 N), (9, i6 a2), (11, i6 a3), (12, bp g6), (80, .bool false), (81, .pointer (some ⟨g6, 1, none⟩)), (82, i6 ((gt O a3).Action)), (83, i6 N), (84, .bool (decide ((gt O a3).Action = N))), (85, .bool s_.1), (93, .bool s_.2)]) (fun s_ => p3 :: e3 :: e4 :: T5 :: T6 :: T7 :: T8 :: Fr) (fun s_ => D3 (.inl (s_.1, s_.2)) = some e1) ?_ (fun s3 => ?_)
                           ·rintro ⟨D5, D6⟩ j; have j := (D4 _).symm.trans j
                            ·refine At.run 1 rfl ?_; obtain ⟨D7, D8, H3, j⟩ := bjoin j; refine At.joinO 8 (X := Bool × Bool) (fun s_ => [(1, bp L), (2, bp I), (4, .slice E p.length G), (5, bp u), (7, i6 J), (8, i6 N), (9, i6 a2), (11, i6 a3), (80, .bool false), (81, .pointer (some ⟨g6, 1, none⟩)), (82, i6 ((gt O a3).Action)), (83, i6 N), (84, .bool (decide ((gt O a3).Action = N))), (85, .bool D5), (93, .bool D6), (94, .bool s_.1), (102, .bool s_.2)]) (fun s_ => p3 :: e3 :: e4 :: T5 :: T6 :: T7 :: T8 :: Fr) (fun s_ => D7 (.inl (s_.1, s_.2)) = some e1) ?_ (fun s4 => ?_)
                             ·rintro ⟨H4, D9⟩ j; have j := (D8 _).symm.trans j
                              ·refine At.run 1 rfl ?_; exact At.of (s2 D9 j) ⟨rfl, rfl, rfl, rfl, rfl, rfl, rfl, rfl, rfl, trivial⟩
                             ··rcases bite j with ⟨p5, j⟩ | ⟨p5, j⟩
                               ··refine At.know (t := 94) rfl p5 ?_
                                 refine At.run 2 rfl (At.y (Y.load rfl rfl .z rfl rfl rfl) rfl rfl rfl ?_); obtain ⟨g7, j⟩ := bnone j; refine At.y (Y.ix (.s (.s (.s (.s .z)))) rfl rfl rfl rfl rfl rfl g7.1 g7.2) rfl rfl rfl ?_; refine At.y (Y.ld (.s (.s (.s (.s .z)))) (q := 0) rfl rfl g7.1 g7.2 rfl rfl rfl) rfl rfl rfl ?_; refine At.run 3 rfl ?_; exact At.of (s4 (true, decide (gt p ((gt O a3).To) = a2)) j) ⟨rfl, rfl, rfl, rfl, rfl, rfl, rfl, rfl, rfl, rfl, rfl, rfl, rfl, rfl, rfl, rfl, rfl, trivial⟩
                               ··refine At.know (t := 94) rfl (bn p5) ?_
                                 refine At.run 8 rfl ?_; exact At.of (s4 (false, false) j) ⟨rfl, rfl, rfl, rfl, rfl, rfl, rfl, rfl, rfl, rfl, rfl, rfl, rfl, rfl, rfl, rfl, rfl, trivial⟩
                           ··rcases bite j with ⟨p6, j⟩ | ⟨p6, j⟩
                             ··refine At.know (t := 85) rfl (decide_eq_true p6) ?_
                               refine At.run 2 rfl (At.y (Y.load rfl rfl .z rfl rfl rfl) rfl rfl rfl ?_); obtain ⟨g8, j⟩ := bnone j; refine At.y (Y.ix (.s (.s (.s (.s .z)))) rfl rfl rfl rfl rfl rfl g8.1 g8.2) rfl rfl rfl ?_; refine At.y (Y.ld (.s (.s (.s (.s .z)))) (q := 0) rfl rfl g8.1 g8.2 rfl rfl rfl) rfl rfl rfl ?_; refine At.run 3 rfl ?_; exact At.of (s3 (true, decide (gt p ((gt O a3).From) = J)) j) ⟨rfl, rfl, rfl, rfl, rfl, rfl, rfl, rfl, rfl, rfl, rfl, rfl, rfl, rfl, rfl, rfl, trivial⟩
                             ··refine At.know (t := 85) rfl (decide_eq_false p6) ?_
                               refine At.run 8 rfl ?_; exact At.of (s3 (false, false) j) ⟨rfl, rfl, rfl, rfl, rfl, rfl, rfl, rfl, rfl, rfl, rfl, rfl, rfl, rfl, rfl, rfl, trivial⟩
                     ··refine At.condF rfl (decide_eq_false p2) ?_
                       refine At.exit ?_; refine At.the ?_; refine At.the ?_; exact fun a w e hs => C5 s1 (bdn j C4) a w (e.sub ⟨rfl, rfl, rfl, rfl, rfl, rfl, rfl, rfl, trivial⟩) hs
               ··refine At.condF rfl (decide_eq_false o7) ?_
                 refine At.exit ?_; refine At.the ?_; refine At.the ?_; exact fun a w e hs => A6 (a6, a6.length, g3, g4) ⟨(bdn j A5), rfl⟩ a w (e.sub ⟨rfl, rfl, rfl, rfl, rfl, rfl, trivial⟩) hs
           ··refine At.condF rfl (decide_eq_false n7) ?_
             refine At.exit ?_; refine At.the ?_; refine At.the ?_; exact fun a w e hs => z2 (b9, b9.length, r8, r9) ⟨(bdn j z1), rfl⟩ a w (e.sub ⟨rfl, rfl, rfl, rfl, rfl, trivial⟩) hs
       ··refine At.condF rfl (decide_eq_false n2) ?_
         refine At.exit ?_; refine At.the ?_; refine At.the ?_; exact fun a w e hs => t6 (b8, b8.length, r6, r7) ⟨(bdn j t5), rfl⟩ a w (e.sub ⟨rfl, rfl, rfl, rfl, trivial⟩) hs
   ·clear d0 h7; rintro h7 ⟨p7, g9⟩ d0; obtain ⟨E0, f_, E1, hf_, j⟩ := bit d0; clear d0; have j : (Q9.l0b p p7 g9).bind _ = some h5 := j; unfold Q9.l0b at j
    ·refine At.seq (sR 4 rfl (nT ?_)); rcases bite j with ⟨p8, j⟩ | ⟨p8, j⟩
     ··refine At.condT rfl (decide_eq_true p8) ?_
       refine At.skip (At.thn (At.seq ?_)); obtain ⟨E2, E3, H5, j⟩ := bjoin j; refine At.join (X := Int) (fun c9 => [(1, bp L), (2, bp I), (4, .slice E p.length G), (5, bp u), (6, i6 g9)]) (fun c9 => pc u [i6 c9, .slice Z ((([] : List Bs) ++ B).length) a0, .slice none 0 0, .slice none 0 0] 26 :: T5 :: T6 :: T7 :: T8 :: Fr) (fun c9 => E2 (.inl c9) = some h5) ?_ (fun s5 => ?_)
       ·rintro c9 j; have j := (E3 _).symm.trans j
        ·refine At.region (At.run 3 rfl (At.nil ?_)); have j := bnx hf_ j; exact fun a w e hs => ⟨E0, (c9, IntKind.i64.wrap (g9 + 1)), E1, j, e.sub ⟨rfl, rfl, rfl, rfl, rfl, trivial⟩, hs⟩
       ··refine At.block ?_
         refine At.seq ?_; refine At.quiet (by kernel_rfl) ?_; refine At.Quiet.run 2 rfl ?_; obtain ⟨a9, j⟩ := bnone j; refine At.Quiet.y (Y.ix (.s (.s .z)) rfl rfl rfl rfl rfl rfl a9.1 a9.2) rfl rfl rfl ?_; refine At.Quiet.y (Y.ld (.s (.s .z)) (q := 0) rfl rfl a9.1 a9.2 rfl rfl rfl) rfl rfl rfl ?_; refine At.Quiet.run 1 rfl ?_; refine At.Quiet.y (Y.load rfl rfl .z rfl rfl rfl) rfl rfl rfl ?_; refine At.Quiet.run 1 rfl (At.Quiet.nil (At.thn ?_)); rcases bite j with ⟨p9, j⟩ | ⟨p9, j⟩
         ··refine At.condT rfl (decide_eq_true p9) ?_
           refine At.region (At.run 2 rfl (At.y (Y.ix (.s (.s .z)) rfl rfl rfl rfl rfl rfl a9.1 a9.2) rfl rfl rfl (At.y (Y.ld (.s (.s .z)) (q := 0) rfl rfl a9.1 a9.2 rfl rfl rfl) rfl rfl rfl (At.run 2 rfl ?_)))); refine At.store rfl rfl rfl rfl .z rfl rfl rfl (.c .n) ?_; refine At.nil ?_; refine At.ibn ?_; refine At.thn ?_; exact fun a w e hs => s5 (IntKind.i64.wrap (gt p g9 + 1)) j a w (e.sub ⟨rfl, rfl, rfl, rfl, rfl, trivial⟩) hs
         ··refine At.condF rfl (decide_eq_false p9) ?_
           refine At.skip ?_; refine At.ibn ?_; refine At.thn ?_; exact fun a w e hs => s5 p7 j a w (e.sub ⟨rfl, rfl, rfl, rfl, rfl, trivial⟩) hs
     ··refine At.condF rfl (decide_eq_false p8) ?_
       refine At.exit ?_; refine At.the ?_; refine At.the ?_; exact fun a w e hs => t1 p7 (bdn j t0) a w (e.sub ⟨rfl, rfl, rfl, rfl, trivial⟩) hs

noncomputable def Q39.l0b (a0 a1 : List Int) (p : Int) : Option ((Int) ⊕ ((Unit) ⊕ (Bool))) :=
 if p < (a0.length : Int) then
 if (0 : Int) ≤ p ∧ p < (a0.length : Int) then
 if (0 : Int) ≤ p ∧ p < (a1.length : Int) then
 if gt a0 p = gt a1 p then
 nx (IntKind.i64.wrap (p + 1))
 else
 upL (some false)
 else none
 else none
 else
 dn (.inl ())
noncomputable def Q39.l0 (a0 a1 : List Int) (p : Int) : Option ((Unit) ⊕ (Bool)) := iter (fun t_ : Int => Q39.l0b a0 a1 t_) p
noncomputable def Q39.f (a0 a1 : List Int) : Option Bool :=
 if (a0.length : Int) = (a1.length : Int) then
 jn (Q39.l0 a0 a1 0) (fun (_ : Unit) =>
 some true)
 else
 some false
theorem Q39.callee : Callee Tryz.prog 16 := ⟨_, Tryz.func16, by kernel_rfl, by kernel_rfl⟩
theorem Q39.spec {a0 a1 : List Int} (hr0 : RdS (Fl.int .i64).rep R.heap A0 a0) (hn0 : a0.length = n0) (hc0 : n0 ≤ c0) (hr1 : RdS (Fl.int .i64).rep R.heap A1 a1) (hn1 : a1.length = n1) (hc1 : n1 ≤ c1) {r : Bool} (j : Q39.f a0 a1 = some r) :
 Spec Tryz.prog 16 [.slice A0 n0 c0, .slice A1 n1 c1] R (Fr) (fun v l' => v = .bool r ∧ Fr = l') := by
 subst hn0; subst hn1; refine Spec.of Tryz.func16 rfl rfl ?_; unfold Q39.f at j; have j := brun j; refine sR 1 rfl (nT (At.seq (At.seq (At.region ?_)))); refine At.run 5 rfl (nT ?_); rcases bite j with ⟨E, j⟩ | ⟨E, j⟩
 ··refine At.condF rfl (nf (decide_eq_true E)) ?_
   refine At.skip (At.thn (At.seq (sR 1 rfl (nT ?_)))); refine At.block ?_; obtain ⟨U, V, Z, j⟩ := bjoin j; obtain ⟨N, G, O⟩ := bsome j; clear j; unfold Q39.l0 at G; obtain ⟨I, u⟩ := Q12.1 G; clear G; refine At.loopJ (X := Int) (Y := Unit) (e0 := 0) (fun p => [(0, .slice A0 a0.length c0), (1, .slice A1 a1.length c1), (5, i6 p)]) (fun p => Fr) (fun m_ => fun p => iterN (fun t_ : Int => Q39.l0b a0 a1 t_) m_ p = some N) I 0 u (fun _ => []) (fun _ => Fr) (fun _ => U (.inl ()) = some r) (fun a w e hs => ⟨e.sub ⟨rfl, rfl, rfl, trivial⟩, (by exact hs)⟩) ?_ (fun a2 => ?_)
   ·rintro _ j; have j := (V _).symm.trans j
    ·refine At.ibx ?_; refine At.thn (sR 1 rfl (nT (At.ret ?_))); cases bret j; exact At.res (.inl rfl) rfl rfl ⟨rfl, rfl⟩
   ·clear u I; rintro I p u; obtain ⟨a3, f_, a4, hf_, j⟩ := bit u; clear u; have j : (Q39.l0b a0 a1 p).bind _ = some N := j; unfold Q39.l0b at j
    ·refine At.seq (sR 4 rfl (nT ?_)); rcases bite j with ⟨J, j⟩ | ⟨J, j⟩
     ··refine At.condT rfl (decide_eq_true J) ?_
       refine At.skip (At.thn (At.seq ?_)); refine At.block ?_; refine At.seq ?_; refine At.quiet (by kernel_rfl) ?_; refine At.Quiet.run 2 rfl ?_; obtain ⟨B, j⟩ := bnone j; refine At.Quiet.y (Y.ixRd hr0 rfl rfl rfl rfl rfl rfl rfl B.1 B.2) rfl rfl rfl ?_; refine At.Quiet.y (Y.ldFl hr0 rfl (q := 0) rfl rfl B.1 B.2 rfl rfl rfl) rfl rfl rfl ?_; refine At.Quiet.run 2 rfl ?_; obtain ⟨D, j⟩ := bnone j; refine At.Quiet.y (Y.ixRd hr1 rfl rfl rfl rfl rfl rfl rfl D.1 D.2) rfl rfl rfl ?_; refine At.Quiet.y (Y.ldFl hr1 rfl (q := 0) rfl rfl D.1 D.2 rfl rfl rfl) rfl rfl rfl ?_; refine At.Quiet.run 1 rfl (At.Quiet.nil (At.thn ?_)); rcases bite j with ⟨L, j⟩ | ⟨L, j⟩
       ··refine At.condF rfl (nf (decide_eq_true L)) ?_
         refine At.skip ?_; refine At.ibn ?_; refine At.thn (At.region (At.run 3 rfl (At.nil ?_))); have j := bnx hf_ j; exact fun a w e hs => ⟨a3, (IntKind.i64.wrap (p + 1)), a4, j, e.sub ⟨rfl, rfl, rfl, trivial⟩, hs⟩
       ··refine At.condT rfl (nt (decide_eq_false L)) ?_
         refine sR 1 rfl (nT (At.ret ?_)); refine At.ibr ?_; refine At.thr ?_; have j := bupL Z O j; refine At.thr ?_; refine At.ibr ?_; refine At.thr ?_; cases bret j; exact At.res (.inl rfl) rfl rfl ⟨rfl, rfl⟩
     ··refine At.condF rfl (decide_eq_false J) ?_
       refine At.exit ?_; refine At.the ?_; refine At.the ?_; exact fun a w e hs => a2 () (bdn j O) a w (e.sub trivial) hs
 ··refine At.condT rfl (nt (decide_eq_false E)) ?_
   refine sR 1 rfl (nT (At.ret (At.thr ?_))); cases bret j; exact At.res (.inl rfl) rfl rfl ⟨rfl, rfl⟩

end Go.Bw
namespace Go.Bw
open Go Go.RowKit

section
variable {α : Type}
def ghole (T : Ow α) (e : Nat) (A : Option Addr) (n c : Nat) (xs : List α) (i : Int) (cs : List Value) : HProp := fun h =>
 ∃ css : List (Raw T.sz), (fun h => (css.length = xs.length ∧ (css[i.toNat]?).map (·.1) = some cs) ∧ stars (row (Fl.raw T.sz T.pos) e A n c css :: (gins T xs css).eraseIdx i.toNat) h) h
theorem sat.ghole {R : Res} {T : Ow α} {e : Nat} {A : Option Addr} {n c : Nat} {xs : List α} {i : Int} {cs : List Value} {l : List HProp} {w : World} :
 sat R (Bw.ghole T e A n c xs i cs :: l) w ↔ ∃ css : List (Raw T.sz), (css.length = xs.length ∧ (css[i.toNat]?).map (·.1) = some cs) ∧ sat R (row (Fl.raw T.sz T.pos) e A n c css :: ((gins T xs css).eraseIdx i.toNat ++ l)) w := by
 unfold Bw.ghole
 rw [sat.ex]
 constructor
 ·rintro ⟨bs, h⟩
  have hb := let ⟨_, o, _⟩ := h.head; o.1
  exact ⟨bs, hb, sat.flat.1 (h.imp fun h o => o.2)⟩
 ·rintro ⟨bs, hb, h⟩
  exact ⟨bs, (sat.flat.2 h).imp fun h o => ⟨hb, o⟩⟩
theorem Q226 {T : Ow α} {x : α} {r : Raw T.sz} : ∀ {xs : List α} {css : List (Raw T.sz)} {i : Nat}, gins T (xs.set i x) (css.set i r) = (gins T xs css).set i (T.own x r.1)
 | [], _, _ => by simp [gins]
 | _ :: _, [], _ => by simp [gins]
 | a :: xs, b :: css, 0 => by simp [gins]
 | a :: xs, b :: css, i + 1 => by
  have := Q226 (T := T) (x := x) (r := r) (xs := xs) (css := css) (i := i)
  simpa [gins] using this
end
section
variable {P : Program} [Tys P] {os : List Oper} {Q : Exit → Act → World → Prop} {rest : List Oper} {n : Nat} {ds : List Deferred} {R : Res} {env : List (Nat × Value)} {l l' : List HProp}
variable {d ty : Nat} {pos : String} {af : Array Edge} {g : Option (Nat × Bool)} {α : Type} {T : Ow α} {e t : Nat} {A : Option Addr} {c m : Nat} {xs : List α} {cs : List Value} {K : Act → World → Prop} {dd : Option Nat} {i : Int}
theorem At.openGrow [Inhabited α] (f : Frt l (grow T e A m c xs) l') (h0 : 0 ≤ i) (h1 : i < (m : Int)) (h : ∀ cs, At n ds R env (ghole T e A m c xs i cs :: T.own (gt xs i) cs :: l') K) : At n ds R env l K := fun a w e0 hs => by
 have hs1 := hs.frt f
 have hm : xs.length = m := let ⟨_, o, _⟩ := hs1.head; (Q127 o).1
 subst hm
 obtain ⟨css, hb, h2⟩ := sat.grow.1 hs1
 have hlt : i.toNat < css.length := by omega
 have hbi : css[i.toNat]? = some css[i.toNat] := List.getElem?_eq_getElem hlt
 refine h css[i.toNat].1 a w e0 (sat.ghole.2 ⟨css, ⟨hb, by rw [hbi]; rfl⟩, ?_⟩)
 have fr : Frt (row (Fl.raw T.sz T.pos) e A xs.length c css :: (gins T xs css ++ l')) (T.own (gt xs i) css[i.toNat].1) (row (Fl.raw T.sz T.pos) e A xs.length c css :: ((gins T xs css).eraseIdx i.toNat ++ l')) := .s (Q101 (Q213 (Q40 h0 h1) hbi))
 have fr2 : Frt (row (Fl.raw T.sz T.pos) e A xs.length c css :: ((gins T xs css).eraseIdx i.toNat ++ T.own (gt xs i) css[i.toNat].1 :: l')) (T.own (gt xs i) css[i.toNat].1) (row (Fl.raw T.sz T.pos) e A xs.length c css :: ((gins T xs css).eraseIdx i.toNat ++ l')) := .s (Q124 .z)
 exact (h2.frt fr).back fr2
theorem At.closeGrow {L M : List HProp} {z : α} (hl : l = ghole T e A m c xs i cs :: M) (ent : Ent L (T.own z cs)) (hM : M = L ++ l') (h : At n ds R env (grow T e A m c (Bw.st xs i z) :: l') K) : At n ds R env l K := fun a w e0 hs => by
 subst hl hM
 obtain ⟨css, ⟨hb, hbi⟩, h2⟩ := sat.ghole.1 hs
 obtain ⟨r, hr, rfl⟩ := Option.map_eq_some_iff.1 hbi
 have hlt : i.toNat < css.length := (List.getElem?_eq_some_iff.1 hr).1
 refine h a w e0 (sat.grow.2 ⟨css, by simp [Bw.st, hb], ?_⟩)
 have h3 : sat R (row (Fl.raw T.sz T.pos) e A m c css :: ((gins T xs css).eraseIdx i.toNat ++ T.own z r.1 :: l')) w := sat.tail (M := row (Fl.raw T.sz T.pos) e A m c css :: (gins T xs css).eraseIdx i.toNat) (fun h s => Q198 ent s) h2
 have hset : gins T (Bw.st xs i z) css = (gins T xs css).set i.toNat (T.own z r.1) := by
  have := Q226 (T := T) (x := z) (r := r) (xs := xs) (css := css) (i := i.toNat)
  have he : css.set i.toNat r = css := by
   apply List.ext_getElem?
   intro j
   rw [List.getElem?_set]
   split
   ·rename_i hj; subst hj; simp [hlt, hr]
    exact (List.getElem?_eq_some_iff.1 hr).2.symm
   ·rfl
  rw [he] at this
  exact this
 have fr : Frt (row (Fl.raw T.sz T.pos) e A m c css :: ((gins T xs css).eraseIdx i.toNat ++ T.own z r.1 :: l')) (T.own z r.1) (row (Fl.raw T.sz T.pos) e A m c css :: ((gins T xs css).eraseIdx i.toNat ++ l')) := .s (Q124 .z)
 have hlen : i.toNat < (gins T xs css).length := by simp [gins]; omega
 have fr2 : Frt (row (Fl.raw T.sz T.pos) e A m c css :: (gins T (Bw.st xs i z) css ++ l')) (T.own z r.1) (row (Fl.raw T.sz T.pos) e A m c css :: ((gins T xs css).eraseIdx i.toNat ++ l')) := .s (by
  have := Q101 (L := (gins T xs css).set i.toNat (T.own z r.1)) (i := i.toNat) (c := T.own z r.1) (l := l') (by simp [hlen])
  rw [Q158] at this
  rw [hset]
  exact this)
 exact (h3.frt fr).back fr2
theorem ghole_len {w : World} (f : Frt l (ghole T e A m c xs i cs) l') (hs : sat R l w) : xs.length = m := by
 obtain ⟨css, ⟨hb, _⟩, h2⟩ := sat.ghole.1 (hs.frt f)
 have : css.length = m := let ⟨_, o, _⟩ := h2.head; Q68 o
 omega
theorem Y.ixGHole (f : Frt l (ghole T e A m c xs i cs) l') {x y : Operand} {j : Int} {k : IntKind} {ii jj : TI} (hi : ti P t = some ii) (hk : ii.k = .slice e) (hx : ev env x = some (.slice A m c)) (hy : ev env y = some (.int k j)) (hj : ti P e = some jj) (hjs : jj.size = T.sz) (h0 : 0 ≤ j) (h1 : j < (m : Int)) :
 Y P n ds R env l ⟨dd, .indexAddr t x y, ty, pos, af, g⟩ (elp A (j.toNat * T.sz)) := fun a w e0 hs => by
 obtain ⟨css, ⟨hb, _⟩, h2⟩ := sat.ghole.1 (hs.frt f)
 have hm : css.length = m := let ⟨_, o, _⟩ := h2.head; Q68 o
 subst hm
 exact Y.ixOwn (F := Fl.raw T.sz T.pos) .z hi hk hx hy hj hjs h0 h1 a w e0 h2
theorem sat_gsome {w : World} (f : Frt l (ghole T e A m c xs i cs) l') (h0 : 0 ≤ i) (h1 : i < (m : Int)) (hs : sat R l w) : ∃ ad, A = some ad := by
 obtain ⟨css, ⟨hb, _⟩, h2⟩ := sat.ghole.1 (hs.frt f)
 have hm : css.length = m := let ⟨_, o, _⟩ := h2.head; Q68 o
 subst hm
 exact Q273 h2 h0 h1
theorem Y.faGHole {s fi k off ft : Nat} {fs : List (Nat × Nat)} {x : Operand} {ii j : TI} (f : Frt l (ghole T e A m c xs i cs) l') (h0 : 0 ≤ i) (h1 : i < (m : Int)) (hi : ti P s = some ii) (hk : ii.k = .struct fs) (hf : fs[fi]? = some (ft, off)) (hj : ti P ft = some j) (hz : Nat.beq j.size 0 = false)
 (hx : ev env x = some (elp A k)) : Y P n ds R env l ⟨dd, .fieldAddr s x fi, ty, pos, af, g⟩ (elp A (k + off)) := fun a w e0 hs =>
 Y.fa (sat_gsome f h0 h1 hs) hi hk hf hj hz hx a w e0 hs
theorem Y.ldGHole (f : Frt l (ghole T e A m c xs i cs) l') {x : Operand} {q : Nat} {v : Value} {ii : TI} (hi : ti P t = some ii) (hx : ev env x = some (elp A (i.toNat * T.sz + q))) (h0 : 0 ≤ i) (h1 : i < (m : Int)) (hl : Nat.ble (q + ii.size) T.sz = true) (hz : Nat.blt 0 ii.size = true) (hv : partOf P t q cs = some v) :
 Y P n ds R env l ⟨dd, .load t x, ty, pos, af, g⟩ v := fun a w e0 hs => by
 obtain ⟨css, ⟨hb, hbi⟩, h2⟩ := sat.ghole.1 (hs.frt f)
 obtain ⟨r, hr, rfl⟩ := Option.map_eq_some_iff.1 hbi
 have hm : css.length = m := let ⟨_, o, _⟩ := h2.head; Q68 o
 subst hm
 have hg : gt css i = r := by unfold gt; rw [List.getD_eq_getElem?_getD, hr]; rfl
 refine Y.ldOwn (F := Fl.raw T.sz T.pos) (q := q) (dd := dd) .z hi hx h0 h1 hl hz ?_ a w e0 h2
 rw [hg]
 exact hv
section
variable {β : Type} [Inhabited β] {F : Fl β} {ys : List β}
end
end
end Go.Bw
namespace Go.Bw
open Go Go.RowKit

section
variable {α : Type}
def Rep.may (T : Rep α) : Rep (Option α) := ⟨T.sz, fun H o cs => match o with | some x => T.K H x cs | none => cs.length = T.sz,
 fun {H o cs} h => by cases o with
  | none => exact h
  | some x => exact T.len h, fun {H H' o cs} s h => by cases o with
  | none => exact h
  | some x => exact T.mono s h, T.pos⟩
def Ow.opt (T : Ow α) : Ow (Option α) := ⟨T.sz, fun o cs h => match o with | some x => T.own x cs h | none => cs.length = T.sz ∧ ∀ u ∈ cs, u.oneCell' = true,
 fun {o cs h} k => by cases o with
  | none => exact k.1
  | some x => exact T.len k, fun {o cs h} k => by cases o with
  | none => exact k.2
  | some x => exact T.one k, T.pos, T.rep.may, T.rsz, fun {o cs h H} k s => by cases o with
  | none => exact k.1.trans T.rsz.symm
  | some x => exact T.rd k s⟩
theorem Q289 (T : Ow α) : ∀ (xs : List α) (css : List (Raw T.sz)), gins T.opt (xs.map some) css = gins T xs css
 | [], _ => rfl
 | _ :: _, [] => rfl
 | a :: xs, b :: css => by
  show T.own a b.1 :: gins T.opt (xs.map some) css = T.own a b.1 :: gins T xs css
  exact congrArg _ (Q289 T xs css)
end
section
variable {P : Program} [Tys P] {os : List Oper} {Q : Exit → Act → World → Prop} {rest : List Oper} {n : Nat} {ds : List Deferred} {R : Res} {env : List (Nat × Value)} {l l' : List HProp}
variable {d ty : Nat} {pos : String} {af : Array Edge} {g : Option (Nat × Bool)} {α : Type} {T : Ow α} {e t : Nat} {A : Option Addr} {c m : Nat} {xs : List α} {os_ : List (Option α)} {cs : List Value} {K : Act → World → Prop} {dd : Option Nat} {i : Int}
theorem At.toOgrow (f : Frt l (grow T e A m c xs) l') (h : At n ds R env (grow T.opt e A m c (xs.map some) :: l') K) : At n ds R env l K := fun a w e0 hs => by
 obtain ⟨css, hb, h2⟩ := sat.grow.1 (hs.frt f)
 refine h a w e0 (sat.grow.2 ⟨css, hb.trans (List.length_map _).symm, ?_⟩)
 rw [Q289]
 exact h2
theorem At.openOgrow [Inhabited α] (f : Frt l (grow T.opt e A m c os_) l') (h0 : 0 ≤ i) (h1 : i < (m : Int)) (hq : (gt os_ i).isSome = true) (h : ∀ cs, At n ds R env (ghole T.opt e A m c os_ i cs :: T.own ((gt os_ i).getD default) cs :: l') K) : At n ds R env l K :=
 At.openGrow f h0 h1 fun cs => by
  have := h cs
  cases ho : gt os_ i with
  | none => rw [ho] at hq; cases hq
  | some x => rw [ho] at this; exact this
theorem Ent.gone (hl : cs.length = T.sz) (ho : cs.all (·.oneCell') = true) : Ent [] (T.opt.own none cs) := fun h _ => ⟨hl, by simpa using ho⟩
theorem At.gholeGoneO (f : Frt l (ghole T.opt e A m c os_ i cs) l') (hl : cs.length = T.sz) (ho : cs.all (·.oneCell') = true) (h : At n ds R env (grow T.opt e A m c (Bw.st os_ i none) :: l') K) : At n ds R env l K := At.frt f <|
 At.closeGrow (T := T.opt) (z := none) rfl (Ent.gone hl ho) rfl h
end
end Go.Bw
namespace Go.Bw
open Go Go.RowKit Go.Proofs
noncomputable def Q8.l8b (q : List (Option Q1)) (u : Int) (B : List Int) (p : Int) : Option (((List Int) × Int) ⊕ (((List Int)) ⊕ (((List (Option Q1)) × Int) ⊕ (((List (Option Q1))) ⊕ (Bool))))) :=
 if p < ((((gt q u).getD default).States ++ ([3] : List Int)).length : Int) then
 if (0 : Int) ≤ p ∧ p < ((((gt q u).getD default).States ++ ([3] : List Int)).length : Int) then
 nx ((st B p 77), IntKind.i64.wrap (p + 1))
 else none
 else
 dn (.inl B)
noncomputable def Q8.l8 (p : List (Option Q1)) (q : Int) (u : List Int) (B : Int) : Option (((List Int)) ⊕ (((List (Option Q1)) × Int) ⊕ (((List (Option Q1))) ⊕ (Bool)))) := iter (fun t_ : (List Int) × Int => Q8.l8b p q t_.1 t_.2) (u, B)
noncomputable def Q8.l7b (u : (List Q1) × (List Q0) × (List Bs) × (List Int) × Int) (q : List (Option Q1)) (p : Int) : Option (((List (Option Q1)) × Int) ⊕ (((List (Option Q1))) ⊕ (Bool))) :=
 if p < (u.1.length : Int) then
 if (0 : Int) ≤ p ∧ p < (u.1.length : Int) then
 if (gt q p).isSome = true then
 if (((gt q p).getD default).States.length + ([3] : List Int).length) * 8 ≤ 140737488355328 then
 jn (Q8.l8 q p (((gt q p).getD default).States ++ ([3] : List Int)) 0) (fun (B : List Int) =>
 nx ((st q p none), IntKind.i64.wrap (p + 1)))
 else none
 else none
 else none
 else
 dn (.inl q)
noncomputable def Q8.l7 (p : (List Q1) × (List Q0) × (List Bs) × (List Int) × Int) (q : List (Option Q1)) (u : Int) : Option (((List (Option Q1))) ⊕ (Bool)) := iter (fun t_ : (List (Option Q1)) × Int => Q8.l7b p t_.1 t_.2) (q, u)
noncomputable def Q8.l6b (q : (List Q1) × (List Q0) × (List Bs) × (List Int) × Int) (u : List Bs) (p : Int) : Option (((List Bs) × Int) ⊕ (((List Bs)) ⊕ (Bool))) :=
 if p < (q.2.2.1.length : Int) then
 if (0 : Int) ≤ p ∧ p < (q.2.2.1.length : Int) then
 nx ((st u p ([63] : Bs)), IntKind.i64.wrap (p + 1))
 else none
 else
 dn (.inl u)
noncomputable def Q8.l6 (p : (List Q1) × (List Q0) × (List Bs) × (List Int) × Int) (q : List Bs) (u : Int) : Option (((List Bs)) ⊕ (Bool)) := iter (fun t_ : (List Bs) × Int => Q8.l6b p t_.1 t_.2) (q, u)
noncomputable def Q8.l5b (q : (List Q1) × (List Q0) × (List Bs) × (List Int) × Int) (u : List Q0) (p : Int) : Option (((List Q0) × Int) ⊕ (((List Q0)) ⊕ (Bool))) :=
 if p < (q.2.1.length : Int) then
 if (0 : Int) ≤ p ∧ p < (q.2.1.length : Int) then
 nx ((st u p (⟨0, 0, 0⟩ : Q0)), IntKind.i64.wrap (p + 1))
 else none
 else
 dn (.inl u)
noncomputable def Q8.l5 (p : (List Q1) × (List Q0) × (List Bs) × (List Int) × Int) (q : List Q0) (u : Int) : Option (((List Q0)) ⊕ (Bool)) := iter (fun t_ : (List Q0) × Int => Q8.l5b p t_.1 t_.2) (q, u)
noncomputable def Q8.l4b (q : (List Int)) (D : (List Q1) × (List Q0) × (List Bs) × (List Int) × Int) (u B : List Int) (p : Int) : Option (((List Int) × (List Int) × Int) ⊕ (((List Int) × (List Int)) ⊕ (Bool))) :=
 if p < (q.length : Int) then
 if (0 : Int) ≤ p ∧ p < (q.length : Int) then
 if (0 : Int) ≤ p ∧ p < (D.2.2.2.1.length : Int) then
 nx ((st u p (-1)), (st B p (-1)), IntKind.i64.wrap (p + 1))
 else none
 else none
 else
 dn (.inl (u, B))
noncomputable def Q8.l4 (p : (List Int)) (q : (List Q1) × (List Q0) × (List Bs) × (List Int) × Int) (u B : List Int) (D : Int) : Option (((List Int) × (List Int)) ⊕ (Bool)) := iter (fun t_ : (List Int) × (List Int) × Int => Q8.l4b p q t_.1 t_.2.1 t_.2.2) (u, B, D)
noncomputable def Q8.l9b (q : List (Option Q1)) (u : Int) (B : List Int) (p : Int) : Option (((List Int) × Int) ⊕ (((List Int)) ⊕ (((List (Option Q1)) × Int) ⊕ (((List (Option Q1))) ⊕ (Bool))))) :=
 if p < ((((gt q u).getD default).States ++ ([3] : List Int)).length : Int) then
 if (0 : Int) ≤ p ∧ p < ((((gt q u).getD default).States ++ ([3] : List Int)).length : Int) then
 nx ((st B p 77), IntKind.i64.wrap (p + 1))
 else none
 else
 dn (.inl B)
noncomputable def Q8.l9 (p : List (Option Q1)) (q : Int) (u : List Int) (B : Int) : Option (((List Int)) ⊕ (((List (Option Q1)) × Int) ⊕ (((List (Option Q1))) ⊕ (Bool)))) := iter (fun t_ : (List Int) × Int => Q8.l9b p q t_.1 t_.2) (u, B)
noncomputable def Q8.l3b (u : (List Q1) × (List Q0) × (List Bs) × (List Int) × Int) (q : List (Option Q1)) (p : Int) : Option (((List (Option Q1)) × Int) ⊕ (((List (Option Q1))) ⊕ (Bool))) :=
 if p < (u.1.length : Int) then
 if (0 : Int) ≤ p ∧ p < (u.1.length : Int) then
 if (gt q p).isSome = true then
 if (((gt q p).getD default).States.length + ([3] : List Int).length) * 8 ≤ 140737488355328 then
 jn (Q8.l9 q p (((gt q p).getD default).States ++ ([3] : List Int)) 0) (fun (B : List Int) =>
 nx ((st q p none), IntKind.i64.wrap (p + 1)))
 else none
 else none
 else none
 else
 dn (.inl q)
noncomputable def Q8.l3 (p : (List Q1) × (List Q0) × (List Bs) × (List Int) × Int) (q : List (Option Q1)) (u : Int) : Option (((List (Option Q1))) ⊕ (Bool)) := iter (fun t_ : (List (Option Q1)) × Int => Q8.l3b p t_.1 t_.2) (q, u)
noncomputable def Q8.l2b (q : (List Q1) × (List Q0) × (List Bs) × (List Int) × Int) (u : List Bs) (p : Int) : Option (((List Bs) × Int) ⊕ (((List Bs)) ⊕ (Bool))) :=
 if p < (q.2.2.1.length : Int) then
 if (0 : Int) ≤ p ∧ p < (q.2.2.1.length : Int) then
 nx ((st u p ([63] : Bs)), IntKind.i64.wrap (p + 1))
 else none
 else
 dn (.inl u)
noncomputable def Q8.l2 (p : (List Q1) × (List Q0) × (List Bs) × (List Int) × Int) (q : List Bs) (u : Int) : Option (((List Bs)) ⊕ (Bool)) := iter (fun t_ : (List Bs) × Int => Q8.l2b p t_.1 t_.2) (q, u)
noncomputable def Q8.l1b (q : (List Q1) × (List Q0) × (List Bs) × (List Int) × Int) (u : List Q0) (p : Int) : Option (((List Q0) × Int) ⊕ (((List Q0)) ⊕ (Bool))) :=
 if p < (q.2.1.length : Int) then
 if (0 : Int) ≤ p ∧ p < (q.2.1.length : Int) then
 nx ((st u p (⟨0, 0, 0⟩ : Q0)), IntKind.i64.wrap (p + 1))
 else none
 else
 dn (.inl u)
noncomputable def Q8.l1 (p : (List Q1) × (List Q0) × (List Bs) × (List Int) × Int) (q : List Q0) (u : Int) : Option (((List Q0)) ⊕ (Bool)) := iter (fun t_ : (List Q0) × Int => Q8.l1b p t_.1 t_.2) (q, u)
noncomputable def Q8.l0b (q : (List Int)) (D : (List Q1) × (List Q0) × (List Bs) × (List Int) × Int) (u B : List Int) (p : Int) : Option (((List Int) × (List Int) × Int) ⊕ (((List Int) × (List Int)) ⊕ (Bool))) :=
 if p < (q.length : Int) then
 if (0 : Int) ≤ p ∧ p < (q.length : Int) then
 if (0 : Int) ≤ p ∧ p < (D.2.2.2.1.length : Int) then
 nx ((st u p (-1)), (st B p (-1)), IntKind.i64.wrap (p + 1))
 else none
 else none
 else
 dn (.inl (u, B))
noncomputable def Q8.l0 (p : (List Int)) (q : (List Q1) × (List Q0) × (List Bs) × (List Int) × Int) (u B : List Int) (D : Int) : Option (((List Int) × (List Int)) ⊕ (Bool)) := iter (fun t_ : (List Int) × (List Int) × Int => Q8.l0b p q t_.1 t_.2.1 t_.2.2) (u, B, D)
noncomputable def Q8.f (B : Int) (D : List Bs) (E : List Q0) (G : List Q1) : Option Bool :=
 (Q79.f ).bind fun L =>
 (Q9.f B D E G).bind fun u =>
 (Q34.f B D E G).bind fun I =>
 (Q16.f B D E G).bind fun p =>
 (Q39.f I u.2.2.2.1).bind fun N =>
 (Q39.f p.2.2.2.1 u.2.2.2.1).bind fun O =>
 (Q17.f p.2.2.2.2 p.2.2.1 p.2.1 p.1 u.2.2.2.2 u.2.2.1 u.2.1 u.1).bind fun U =>
 jn (
 if L = true then
 some (.inl (!N))
 else
 some (.inl true)) (fun (V : Bool) =>
 jn (
 if V = true then
 some (.inl true)
 else
 some (.inl (!O))) (fun (X : Bool) =>
 jn (
 if X = true then
 some (.inl true)
 else
 some (.inl (!U))) (fun (Z : Bool) =>
 if Z = true then
 some false
 else
 jn (Q8.l0 I p I p.2.2.2.1 0) (fun (s_ : (List Int) × (List Int)) =>
 jn (Q8.l1 p p.2.1 0) (fun (a6 : List Q0) =>
 jn (Q8.l2 p p.2.2.1 0) (fun (a7 : List Bs) =>
 jn (Q8.l3 p (p.1.map some) 0) (fun (a8 : List (Option Q1)) =>
 (Q34.f B D E G).bind fun J =>
 (Q16.f B D E G).bind fun q =>
 (Q39.f J u.2.2.2.1).bind fun a0 =>
 (Q39.f q.2.2.2.1 u.2.2.2.1).bind fun a1 =>
 (Q17.f q.2.2.2.2 q.2.2.1 q.2.1 q.1 u.2.2.2.2 u.2.2.1 u.2.1 u.1).bind fun a2 =>
 jn (
 if L = true then
 some (.inl (!a0))
 else
 some (.inl true)) (fun (a3 : Bool) =>
 jn (
 if a3 = true then
 some (.inl true)
 else
 some (.inl (!a1))) (fun (a4 : Bool) =>
 jn (
 if a4 = true then
 some (.inl true)
 else
 some (.inl (!a2))) (fun (a5 : Bool) =>
 if a5 = true then
 some false
 else
 jn (Q8.l4 J q J q.2.2.2.1 0) (fun (s_ : (List Int) × (List Int)) =>
 jn (Q8.l5 q q.2.1 0) (fun (a9 : List Q0) =>
 jn (Q8.l6 q q.2.2.1 0) (fun (b4 : List Bs) =>
 jn (Q8.l7 q (q.1.map some) 0) (fun (b5 : List (Option Q1)) =>
 some true))))))))))))))
theorem Q8.spec (R : Res) (Fr : List HProp) (A0_1 : Option Addr) (n0_1 : Nat) (c0_1 : Nat) (A0_2 : Option Addr) (n0_2 : Nat) (c0_2 : Nat) (A0_3 : Option Addr) (n0_3 : Nat) (c0_3 : Nat) (k2 : Int) (e4 : List Bs) (e5 : List Q0) (e6 : List Q1) (hr0_1 : RdS Fl.bs.rep R.heap A0_1 e4) (hn0_1 : e4.length = n0_1) (hc0_1 : n0_1 ≤ c0_1) (hr0_2 : RdS Q0.fl.rep R.heap A0_2 e5) (hn0_2 : e5.length = n0_2) (hc0_2 : n0_2 ≤ c0_2) (hr0_3 : RdS Q1.rep R.heap A0_3 e6) (hn0_3 : e6.length = n0_3) (hc0_3 : n0_3 ≤ c0_3) (hg0 : RdS (Fl.int .u8).rep R.heap (some ⟨0, 0, none⟩) Tryz.gtab0) {r : Bool} (j : Q8.f k2 e4 e5 e6 = some r) :
 Spec Tryz.prog 3 [.agg #[i6 k2, .slice A0_1 n0_1 c0_1, .slice A0_2 n0_2 c0_2, .slice A0_3 n0_3 c0_3]] R (Fr) (fun v l' => v = .bool r ∧ Fr = l') := by
 subst hn0_1; subst hn0_2; subst hn0_3; refine Spec.of Tryz.func3 rfl rfl ?_; unfold Q8.f at j; have j := brun j; refine At.seq (At.region ?_); refine At.box rfl rfl (cs := [i6 k2, .slice A0_1 e4.length c0_1, .slice A0_2 e5.length c0_2, .slice A0_3 e6.length c0_3]) rfl rfl (fun D => ?_); refine At.run 1 rfl (nT (At.seq (At.region ?_))); obtain ⟨J, z7, j⟩ := bbind j; refine At.call rfl Q79.callee rfl rfl rfl (Q79.spec hg0 z7) ?_; rintro _ _ ⟨rfl, rfl⟩; refine At.run 1 rfl (nT (At.seq (At.region (At.y (Y.load rfl rfl .z rfl rfl rfl) rfl rfl rfl ?_)))); obtain ⟨u, z8, j⟩ := bbind j; refine At.call rfl Q9.callee rfl rfl rfl (Q9.spec hr0_1 rfl hc0_1 hr0_2 rfl hc0_2 hr0_3 rfl hc0_3 z8) ?_; rintro _ _ ⟨P5, u5, u6, P6, u7, u9, P7, v0, v1, P8, E, G, rfl, rfl, rfl, rfl, rfl, rfl⟩; refine At.run 3 rfl ?_; refine At.alloc rfl rfl rfl (fun I => ?_); refine At.store rfl rfl rfl rfl .z rfl rfl rfl (.c (.c (.c (.c .n)))) ?_; refine At.run 1 rfl (nT (At.seq (sR 1 rfl (At.nil ?_)))); refine At.thn ?_; refine At.block ?_; refine At.rounds 3 ?_; refine At.round ?_; refine At.seq (sR 2 rfl (nT ?_)); refine At.condT rfl rfl ?_; refine At.skip (At.thn (At.seq ?_)); refine At.block ?_; refine At.seq (At.region ?_); refine At.y (Y.load rfl rfl (.s (.s (.s (.s (.s .z))))) rfl rfl rfl) rfl rfl rfl ?_; obtain ⟨a7, z9, j⟩ := bbind j; refine At.call rfl Q34.callee rfl rfl rfl (Q34.spec hr0_1 rfl hc0_1 hr0_2 rfl hc0_2 hr0_3 rfl hc0_3 hg0 z9) ?_; rintro _ _ ⟨P9, c9, d0, rfl, rfl, rfl⟩; refine At.run 1 rfl (nT (At.seq (At.region ?_))); refine At.y (Y.load rfl rfl (.s (.s (.s (.s (.s (.s .z)))))) rfl rfl rfl) rfl rfl rfl ?_; obtain ⟨p, A2, j⟩ := bbind j; refine At.call rfl Q16.callee rfl rfl rfl (Q16.spec hr0_1 rfl hc0_1 hr0_2 rfl hc0_2 hr0_3 rfl hc0_3 hg0 A2) ?_; rintro _ _ ⟨R0, b4, b5, R1, e7, e8, R2, e9, f0, R3, d1, d2, rfl, rfl, rfl, rfl, rfl, rfl⟩; refine At.run 3 rfl ?_; refine At.alloc rfl rfl rfl (fun a4 => ?_); refine At.store rfl rfl rfl rfl .z rfl rfl rfl (.c (.c (.c (.c .n)))) ?_; refine At.run 1 rfl (nT (sR 2 rfl ?_)); refine At.freeze (.s (.s (.s (.s (.s .z))))) fun R4 A3 A4 A5 R5 v2 => ?_; refine At.freeze (.s (.s (.s (.s (.s (.s (.s (.s (.s .z))))))))) fun R6 v3 v4 v5 A6 v6 => ?_; obtain ⟨A7, A8, j⟩ := bbind j; refine At.call rfl Q39.callee rfl rfl rfl (Q39.spec (RdS.mono A6 A3) A4 A5 v3 v4 v5 A8) ?_; rintro _ _ ⟨rfl, rfl⟩; refine At.run 1 rfl (nT (sR 2 rfl ?_)); refine At.freeze (.s (.s (.s (.s .z)))) fun R7 A9 B0 B1 B2 v7 => ?_; obtain ⟨v8, B3, j⟩ := bbind j; refine At.call rfl Q39.callee rfl rfl rfl (Q39.spec A9 B0 B1 (RdS.mono B2 v3) v4 v5 B3) ?_; rintro _ _ ⟨rfl, rfl⟩; refine At.run 1 rfl (nT (At.seq (At.region (At.y (Y.load rfl rfl .z rfl rfl rfl) rfl rfl rfl ?_)))); refine At.y (Y.load rfl rfl (.s (.s (.s (.s .z)))) rfl rfl rfl) rfl rfl rfl ?_; refine At.freeze (.s .z) fun R8 B4 B5 B6 R9 v9 => ?_; refine At.freeze (.s .z) fun S0 B7 B9 C0 C1 w0 => ?_; refine At.freezeGrow (.s .z) fun S1 C2 C3 C4 w1 w2 => ?_; refine At.freeze (.s (.s .z)) fun S2 C5 C6 C7 m9 w3 => ?_; refine At.freeze (.s (.s .z)) fun S3 C8 C9 D0 k3 w4 => ?_; refine At.freezeGrow (.s (.s .z)) fun S4 D1 D2 D3 f1 w5 => ?_; obtain ⟨n2, D4, j⟩ := bbind j; refine At.call rfl Q17.callee rfl rfl rfl (Q17.spec (RdS.mono ((((C1.trans w1).trans m9).trans k3).trans f1) B4) B5 B6 (RdS.mono (((w1.trans m9).trans k3).trans f1) B7) B9 C0 (RdS.mono ((m9.trans k3).trans f1) C2) C3 C4 (RdS.mono (k3.trans f1) C5) C6 C7 (RdS.mono f1 C8) C9 D0 D1 D2 D3 D4) ?_; rintro _ _ ⟨rfl, rfl⟩; refine At.run 1 rfl (nT (At.seq (sR 3 rfl ?_))); obtain ⟨D5, D6, S5, j⟩ := bjoin j; let T1 : HProp := pc a4 [i6 p.2.2.2.2, .slice e9 p.2.2.1.length f0, .slice e7 p.2.1.length e8, .slice b4 p.1.length b5] 26; let T2 : HProp := pc I [i6 u.2.2.2.2, .slice v0 u.2.2.1.length v1, .slice u7 u.2.1.length u9, .slice u5 u.1.length u6] 26; let T3 : HProp := pc D [i6 k2, .slice A0_1 e4.length c0_1, .slice A0_2 e5.length c0_2, .slice A0_3 e6.length c0_3] 26; refine At.joinO 3 (X := Bool) (fun f2 => [(1, bp D), (3, .bool J), (4, bp I), (5, .slice E u.2.2.2.1.length G), (6, i6 0), (7, .slice c9 a7.length d0), (8, bp a4), (9, .slice d1 p.2.2.2.1.length d2), (11, .bool v8), (12, .bool n2), (50, .bool f2)]) (fun f2 => T1 :: T2 :: T3 :: Fr) (fun f2 => D5 (.inl f2) = some r) ?_ (fun w6 => ?_)
 ·rintro f2 j; have j := (D6 _).symm.trans j
  ·refine At.run 1 rfl ?_; obtain ⟨D7, D8, S6, j⟩ := bjoin j; refine At.joinO 3 (X := Bool) (fun f3 => [(1, bp D), (3, .bool J), (4, bp I), (5, .slice E u.2.2.2.1.length G), (6, i6 0), (7, .slice c9 a7.length d0), (8, bp a4), (9, .slice d1 p.2.2.2.1.length d2), (12, .bool n2), (54, .bool f3)]) (fun f3 => T1 :: T2 :: T3 :: Fr) (fun f3 => D7 (.inl f3) = some r) ?_ (fun w7 => ?_)
   ·rintro f3 j; have j := (D8 _).symm.trans j
    ·refine At.run 1 rfl ?_; obtain ⟨D9, E0, S7, j⟩ := bjoin j; refine At.joinO 3 (X := Bool) (fun f4 => [(1, bp D), (3, .bool J), (4, bp I), (5, .slice E u.2.2.2.1.length G), (6, i6 0), (7, .slice c9 a7.length d0), (8, bp a4), (9, .slice d1 p.2.2.2.1.length d2), (58, .bool f4)]) (fun f4 => T1 :: T2 :: T3 :: Fr) (fun f4 => D9 (.inl f4) = some r) ?_ (fun w8 => ?_)
     ·rintro f4 j; have j := (E0 _).symm.trans j
      ·refine nT ?_; rcases bite j with ⟨n3, j⟩ | ⟨n3, j⟩
       ··refine At.condT rfl n3 ?_
         refine sR 1 rfl (nT (At.ret (At.thr ?_))); refine At.ibr ?_; refine At.thr (At.thr ?_); refine At.ibr ?_; refine At.thr ?_; refine At.thaw w5 ?_; refine At.thaw w4 ?_; refine At.thaw w3 ?_; refine At.thaw w2 ?_; refine At.thaw w0 ?_; refine At.thaw v9 ?_; refine At.thaw v7 ?_; refine At.thaw v6 ?_; refine At.thaw v2 ?_; refine At.drop .z (At.drop .z (At.drop .z (At.drop .z (At.drop .z (At.drop .z (At.drop .z (At.drop .z ?_))))))); refine At.drop .z (At.drop .z (At.drop .z (At.drop .z ?_))); cases bret j; exact At.res (.inl rfl) rfl rfl ⟨rfl, rfl⟩
       ··refine At.condF rfl (bn n3) ?_
         refine At.skip (At.thn (At.seq (sR 1 rfl (nT ?_)))); refine At.block ?_; refine At.thaw w5 ?_; refine At.thaw w4 ?_; refine At.thaw w3 ?_; refine At.thaw w2 ?_; refine At.thaw w0 ?_; refine At.thaw v9 ?_; refine At.thaw v7 ?_; refine At.thaw v6 ?_; refine At.thaw v2 ?_; obtain ⟨E1, E2, S8, j⟩ := bjoin j; obtain ⟨w9, n4, E3⟩ := bsome j; clear j; unfold Q8.l0 at n4; obtain ⟨n5, f5⟩ := Q12.1 n4; clear n4; let T4 : HProp := row (Fl.int .i64) 3 E u.2.2.2.1.length G u.2.2.2.1; let T5 : HProp := row Fl.bs 9 e9 p.2.2.1.length f0 p.2.2.1; let T6 : HProp := row Q0.fl 35 e7 p.2.1.length e8 p.2.1; let T7 : HProp := grow Q1.ow 37 b4 p.1.length b5 p.1; let T8 : HProp := row Fl.bs 9 v0 u.2.2.1.length v1 u.2.2.1; let T9 : HProp := row Q0.fl 35 u7 u.2.1.length u9 u.2.1; let O : HProp := grow Q1.ow 37 u5 u.1.length u6 u.1; refine At.loopJ (X := (List Int) × (List Int) × Int) (Y := (List Int) × (List Int)) (e0 := 2) (fun s_ => [(1, bp D), (3, .bool J), (4, bp I), (5, .slice E u.2.2.2.1.length G), (6, i6 0), (7, .slice c9 a7.length d0), (8, bp a4), (9, .slice d1 p.2.2.2.1.length d2), (13, i6 s_.2.2)]) (fun s_ => row (Fl.int .i64) 3 c9 a7.length d0 s_.1 :: T4 :: row (Fl.int .i64) 3 d1 p.2.2.2.1.length d2 s_.2.1 :: T5 :: T6 :: T7 :: T8 :: T9 :: O :: T1 :: T2 :: T3 :: Fr) (fun m_ => fun s_ => iterN (fun t_ : (List Int) × (List Int) × Int => Q8.l0b a7 p t_.1 t_.2.1 t_.2.2) m_ (s_.1, s_.2.1, s_.2.2) = some w9) n5 (a7, p.2.2.2.1, 0) f5 (fun s_ => [(1, bp D), (3, .bool J), (4, bp I), (5, .slice E u.2.2.2.1.length G), (6, i6 0), (8, bp a4)]) (fun s_ => row (Fl.int .i64) 3 c9 a7.length d0 s_.1 :: T4 :: row (Fl.int .i64) 3 d1 p.2.2.2.1.length d2 s_.2 :: T5 :: T6 :: T7 :: T8 :: T9 :: O :: T1 :: T2 :: T3 :: Fr) (fun s_ => E1 (.inl (s_.1, s_.2)) = some r) (fun a w e hs => ⟨e.sub ⟨rfl, rfl, rfl, rfl, rfl, rfl, rfl, rfl, rfl, trivial⟩, (by exact hs)⟩) ?_ (fun E4 => ?_)
         ·rintro ⟨E5, E6⟩ j; have j := (E2 _).symm.trans j
          ·refine At.ibx ?_; refine At.thn (At.seq (sR 1 rfl (nT ?_))); refine At.block ?_; obtain ⟨E7, E8, S9, j⟩ := bjoin j; obtain ⟨x0, n6, E9⟩ := bsome j; clear j; unfold Q8.l1 at n6; obtain ⟨n7, f6⟩ := Q12.1 n6; clear n6; let L : HProp := row (Fl.int .i64) 3 c9 a7.length d0 E5; let N : HProp := row (Fl.int .i64) 3 d1 p.2.2.2.1.length d2 E6; refine At.loopJ (X := (List Q0) × Int) (Y := (List Q0)) (e0 := 4) (fun s_ => [(1, bp D), (3, .bool J), (4, bp I), (5, .slice E u.2.2.2.1.length G), (6, i6 0), (8, bp a4), (14, i6 s_.2)]) (fun s_ => L :: T4 :: N :: T5 :: row Q0.fl 35 e7 p.2.1.length e8 s_.1 :: T7 :: T8 :: T9 :: O :: T1 :: T2 :: T3 :: Fr) (fun m_ => fun s_ => iterN (fun t_ : (List Q0) × Int => Q8.l1b p t_.1 t_.2) m_ (s_.1, s_.2) = some x0) n7 (p.2.1, 0) f6 (fun d7 => [(1, bp D), (3, .bool J), (4, bp I), (5, .slice E u.2.2.2.1.length G), (6, i6 0), (8, bp a4)]) (fun d7 => L :: T4 :: N :: T5 :: row Q0.fl 35 e7 p.2.1.length e8 d7 :: T7 :: T8 :: T9 :: O :: T1 :: T2 :: T3 :: Fr) (fun d7 => E7 (.inl d7) = some r) (fun a w e hs => ⟨e.sub ⟨rfl, rfl, rfl, rfl, rfl, rfl, rfl, trivial⟩, (by exact hs)⟩) ?_ (fun F0 => ?_)
           ·rintro d7 j; have j := (E8 _).symm.trans j
            ·refine At.ibx ?_; refine At.thn (At.seq (sR 1 rfl (nT ?_))); refine At.block ?_; obtain ⟨F1, F2, T0, j⟩ := bjoin j; obtain ⟨x1, n8, F3⟩ := bsome j; clear j; unfold Q8.l2 at n8; obtain ⟨n9, g0⟩ := Q12.1 n8; clear n8; let V : HProp := row Q0.fl 35 e7 p.2.1.length e8 d7; refine At.loopJ (X := (List Bs) × Int) (Y := (List Bs)) (e0 := 6) (fun s_ => [(1, bp D), (3, .bool J), (4, bp I), (5, .slice E u.2.2.2.1.length G), (6, i6 0), (8, bp a4), (15, i6 s_.2)]) (fun s_ => L :: T4 :: N :: row Fl.bs 9 e9 p.2.2.1.length f0 s_.1 :: V :: T7 :: T8 :: T9 :: O :: T1 :: T2 :: T3 :: Fr) (fun m_ => fun s_ => iterN (fun t_ : (List Bs) × Int => Q8.l2b p t_.1 t_.2) m_ (s_.1, s_.2) = some x1) n9 (p.2.2.1, 0) g0 (fun d8 => [(1, bp D), (3, .bool J), (4, bp I), (5, .slice E u.2.2.2.1.length G), (6, i6 0), (8, bp a4)]) (fun d8 => L :: T4 :: N :: row Fl.bs 9 e9 p.2.2.1.length f0 d8 :: V :: T7 :: T8 :: T9 :: O :: T1 :: T2 :: T3 :: Fr) (fun d8 => F1 (.inl d8) = some r) (fun a w e hs => ⟨e.sub ⟨rfl, rfl, rfl, rfl, rfl, rfl, rfl, trivial⟩, (by exact hs)⟩) ?_ (fun F4 => ?_)
             ·rintro d8 j; have j := (F2 _).symm.trans j
              ·refine At.ibx ?_; refine At.thn (sR 1 rfl (nT ?_)); refine At.block ?_; obtain ⟨F5, F6, U0, j⟩ := bjoin j; obtain ⟨o0, o7, F7⟩ := bsome j; clear j; unfold Q8.l3 at o7; obtain ⟨o8, g1⟩ := Q12.1 o7; clear o7; refine At.toOgrow (.s (.s (.s (.s (.s .z))))) ?_; let a1 : HProp := row Fl.bs 9 e9 p.2.2.1.length f0 d8; refine At.loopJ (X := (List (Option Q1)) × Int) (Y := (List (Option Q1))) (e0 := 8) (fun s_ => [(1, bp D), (3, .bool J), (4, bp I), (5, .slice E u.2.2.2.1.length G), (6, i6 0), (8, bp a4), (16, i6 s_.2)]) (fun s_ => grow (Q1.ow.opt) 37 b4 p.1.length b5 s_.1 :: L :: T4 :: N :: a1 :: V :: T8 :: T9 :: O :: T1 :: T2 :: T3 :: Fr) (fun m_ => fun s_ => iterN (fun t_ : (List (Option Q1)) × Int => Q8.l3b p t_.1 t_.2) m_ (s_.1, s_.2) = some o0) o8 ((p.1.map some), 0) g1 (fun b6 => [(1, bp D), (3, .bool J), (4, bp I), (5, .slice E u.2.2.2.1.length G), (6, i6 0)]) (fun b6 => grow (Q1.ow.opt) 37 b4 p.1.length b5 b6 :: L :: T4 :: N :: a1 :: V :: T8 :: T9 :: O :: T1 :: T2 :: T3 :: Fr) (fun b6 => F5 (.inl b6) = some r) (fun a w e hs => ⟨e.sub ⟨rfl, rfl, rfl, rfl, rfl, rfl, rfl, trivial⟩, (by exact hs)⟩) ?_ (fun F8 => ?_)
               ·rintro b6 j; have j := (F6 _).symm.trans j
                ·refine At.ibx ?_; refine At.ibn ?_; refine At.thn (At.region (At.run 3 rfl (nT ?_))); refine At.round ?_; refine At.seq (sR 2 rfl (nT ?_)); refine At.condT rfl rfl ?_; refine At.skip (At.thn (At.seq ?_)); refine At.block ?_; refine At.seq (At.region ?_); refine At.y (Y.load rfl rfl (.s (.s (.s (.s (.s (.s (.s (.s (.s (.s (.s .z))))))))))) rfl rfl rfl) rfl rfl rfl ?_; obtain ⟨a8, F9, j⟩ := bbind j; refine At.call rfl Q34.callee rfl rfl rfl (Q34.spec hr0_1 rfl hc0_1 hr0_2 rfl hc0_2 hr0_3 rfl hc0_3 hg0 F9) ?_; rintro _ _ ⟨U1, d3, d4, rfl, rfl, rfl⟩; refine At.run 1 rfl (nT (At.seq (At.region ?_))); refine At.y (Y.load rfl rfl (.s (.s (.s (.s (.s (.s (.s (.s (.s (.s (.s (.s .z)))))))))))) rfl rfl rfl) rfl rfl rfl ?_; obtain ⟨B, G0, j⟩ := bbind j; refine At.call rfl Q16.callee rfl rfl rfl (Q16.spec hr0_1 rfl hc0_1 hr0_2 rfl hc0_2 hr0_3 rfl hc0_3 hg0 G0) ?_; rintro _ _ ⟨U2, g2, g3, U3, g4, g5, U4, g6, g7, U5, d5, d6, rfl, rfl, rfl, rfl, rfl, rfl⟩; refine At.run 3 rfl ?_; refine At.alloc rfl rfl rfl (fun a5 => ?_); refine At.store rfl rfl rfl rfl .z rfl rfl rfl (.c (.c (.c (.c .n)))) ?_; refine At.run 1 rfl (nT (sR 2 rfl ?_)); refine At.freeze (.s (.s (.s (.s (.s .z))))) fun U6 G1 G2 G3 U7 x2 => ?_; refine At.freeze (.s (.s (.s (.s (.s (.s (.s .z))))))) fun U8 x3 x4 x5 G4 x6 => ?_; obtain ⟨G5, G6, j⟩ := bbind j; refine At.call rfl Q39.callee rfl rfl rfl (Q39.spec (RdS.mono G4 G1) G2 G3 x3 x4 x5 G6) ?_; rintro _ _ ⟨rfl, rfl⟩; refine At.run 1 rfl (nT (sR 2 rfl ?_)); refine At.freeze (.s (.s (.s (.s .z)))) fun U9 G7 G8 G9 H0 x7 => ?_; obtain ⟨x8, H1, j⟩ := bbind j; refine At.call rfl Q39.callee rfl rfl rfl (Q39.spec G7 G8 G9 (RdS.mono H0 x3) x4 x5 H1) ?_; rintro _ _ ⟨rfl, rfl⟩; refine At.run 1 rfl (nT (At.seq (At.region (At.y (Y.load rfl rfl .z rfl rfl rfl) rfl rfl rfl ?_)))); refine At.y (Y.load rfl rfl (.s (.s (.s (.s (.s (.s (.s (.s (.s (.s (.s (.s (.s .z))))))))))))) rfl rfl rfl) rfl rfl rfl ?_; refine At.freeze (.s .z) fun V0 H2 H3 H4 V1 x9 => ?_; refine At.freeze (.s .z) fun V2 H5 H6 H7 H8 y0 => ?_; refine At.freezeGrow (.s .z) fun V3 H9 I0 I1 y1 y2 => ?_; refine At.freeze (.s (.s (.s (.s (.s (.s .z)))))) fun V4 I2 I3 I4 o9 y3 => ?_; refine At.freeze (.s (.s (.s (.s (.s (.s .z)))))) fun V5 I5 I6 I7 k4 y4 => ?_; refine At.freezeGrow (.s (.s (.s (.s (.s (.s .z)))))) fun V6 I8 I9 J0 g8 y5 => ?_; obtain ⟨p0, J1, j⟩ := bbind j; refine At.call rfl Q17.callee rfl rfl rfl (Q17.spec (RdS.mono ((((H8.trans y1).trans o9).trans k4).trans g8) H2) H3 H4 (RdS.mono (((y1.trans o9).trans k4).trans g8) H5) H6 H7 (RdS.mono ((o9.trans k4).trans g8) H9) I0 I1 (RdS.mono (k4.trans g8) I2) I3 I4 (RdS.mono g8 I5) I6 I7 I8 I9 J0 J1) ?_; rintro _ _ ⟨rfl, rfl⟩; refine At.run 1 rfl (nT (At.seq (sR 3 rfl ?_))); obtain ⟨J2, J3, V7, j⟩ := bjoin j; let a6 : HProp := pc a5 [i6 B.2.2.2.2, .slice g6 B.2.2.1.length g7, .slice g4 B.2.1.length g5, .slice g2 B.1.length g3] 26; refine At.joinO 3 (X := Bool) (fun g9 => [(1, bp D), (3, .bool J), (4, bp I), (5, .slice E u.2.2.2.1.length G), (6, i6 1), (7, .slice d3 a8.length d4), (8, bp a5), (9, .slice d5 B.2.2.2.1.length d6), (11, .bool x8), (12, .bool p0), (50, .bool g9)]) (fun g9 => a6 :: grow (Q1.ow.opt) 37 b4 p.1.length b5 b6 :: L :: N :: a1 :: V :: T1 :: T2 :: T3 :: Fr) (fun g9 => J2 (.inl g9) = some r) ?_ (fun y6 => ?_)
                 ·rintro g9 j; have j := (J3 _).symm.trans j
                  ·refine At.run 1 rfl ?_; obtain ⟨J4, J5, V8, j⟩ := bjoin j; refine At.joinO 3 (X := Bool) (fun h0 => [(1, bp D), (3, .bool J), (4, bp I), (5, .slice E u.2.2.2.1.length G), (6, i6 1), (7, .slice d3 a8.length d4), (8, bp a5), (9, .slice d5 B.2.2.2.1.length d6), (12, .bool p0), (54, .bool h0)]) (fun h0 => a6 :: grow (Q1.ow.opt) 37 b4 p.1.length b5 b6 :: L :: N :: a1 :: V :: T1 :: T2 :: T3 :: Fr) (fun h0 => J4 (.inl h0) = some r) ?_ (fun y7 => ?_)
                   ·rintro h0 j; have j := (J5 _).symm.trans j
                    ·refine At.run 1 rfl ?_; obtain ⟨J6, J7, V9, j⟩ := bjoin j; refine At.joinO 3 (X := Bool) (fun h1 => [(1, bp D), (3, .bool J), (4, bp I), (5, .slice E u.2.2.2.1.length G), (6, i6 1), (7, .slice d3 a8.length d4), (8, bp a5), (9, .slice d5 B.2.2.2.1.length d6), (58, .bool h1)]) (fun h1 => a6 :: grow (Q1.ow.opt) 37 b4 p.1.length b5 b6 :: L :: N :: a1 :: V :: T1 :: T2 :: T3 :: Fr) (fun h1 => J6 (.inl h1) = some r) ?_ (fun y8 => ?_)
                     ·rintro h1 j; have j := (J7 _).symm.trans j
                      ·refine nT ?_; rcases bite j with ⟨p1, j⟩ | ⟨p1, j⟩
                       ··refine At.condT rfl p1 ?_
                         refine sR 1 rfl (nT (At.ret (At.thr ?_))); refine At.ibr ?_; refine At.thr (At.thr ?_); refine At.ibr ?_; refine At.thr ?_; refine At.thaw y5 ?_; refine At.thaw y4 ?_; refine At.thaw y3 ?_; refine At.thaw y2 ?_; refine At.thaw y0 ?_; refine At.thaw x9 ?_; refine At.thaw x7 ?_; refine At.thaw x6 ?_; refine At.thaw x2 ?_; refine At.drop .z (At.drop .z (At.drop .z (At.drop .z (At.drop .z (At.drop .z (At.drop .z (At.drop .z ?_))))))); refine At.drop .z (At.drop .z (At.drop .z (At.drop .z (At.drop .z (At.drop .z (At.drop .z (At.drop .z ?_))))))); refine At.drop .z (At.drop .z ?_); cases bret j; exact At.res (.inl rfl) rfl rfl ⟨rfl, rfl⟩
                       ··refine At.condF rfl (bn p1) ?_
                         refine At.skip (At.thn (At.seq (sR 1 rfl (nT ?_)))); refine At.block ?_; refine At.thaw y5 ?_; refine At.thaw y4 ?_; refine At.thaw y3 ?_; refine At.thaw y2 ?_; refine At.thaw y0 ?_; refine At.thaw x9 ?_; refine At.thaw x7 ?_; refine At.thaw x6 ?_; refine At.thaw x2 ?_; obtain ⟨J8, J9, W0, j⟩ := bjoin j; obtain ⟨y9, p2, K0⟩ := bsome j; clear j; unfold Q8.l4 at p2; obtain ⟨p3, h2⟩ := Q12.1 p2; clear p2; let k5 : HProp := row Fl.bs 9 g6 B.2.2.1.length g7 B.2.2.1; let z0 : HProp := row Q0.fl 35 g4 B.2.1.length g5 B.2.1; let d9 : HProp := grow Q1.ow 37 g2 B.1.length g3 B.1; let a9 : HProp := grow (Q1.ow.opt) 37 b4 p.1.length b5 b6; refine At.loopJ (X := (List Int) × (List Int) × Int) (Y := (List Int) × (List Int)) (e0 := 2) (fun s_ => [(1, bp D), (3, .bool J), (4, bp I), (5, .slice E u.2.2.2.1.length G), (6, i6 1), (7, .slice d3 a8.length d4), (8, bp a5), (9, .slice d5 B.2.2.2.1.length d6), (13, i6 s_.2.2)]) (fun s_ => row (Fl.int .i64) 3 d3 a8.length d4 s_.1 :: T4 :: row (Fl.int .i64) 3 d5 B.2.2.2.1.length d6 s_.2.1 :: k5 :: z0 :: d9 :: T8 :: T9 :: O :: a6 :: a9 :: L :: N :: a1 :: V :: T1 :: T2 :: T3 :: Fr) (fun m_ => fun s_ => iterN (fun t_ : (List Int) × (List Int) × Int => Q8.l4b a8 B t_.1 t_.2.1 t_.2.2) m_ (s_.1, s_.2.1, s_.2.2) = some y9) p3 (a8, B.2.2.2.1, 0) h2 (fun s_ => [(1, bp D), (3, .bool J), (4, bp I), (5, .slice E u.2.2.2.1.length G), (6, i6 1), (8, bp a5)]) (fun s_ => row (Fl.int .i64) 3 d3 a8.length d4 s_.1 :: T4 :: row (Fl.int .i64) 3 d5 B.2.2.2.1.length d6 s_.2 :: k5 :: z0 :: d9 :: T8 :: T9 :: O :: a6 :: a9 :: L :: N :: a1 :: V :: T1 :: T2 :: T3 :: Fr) (fun s_ => J8 (.inl (s_.1, s_.2)) = some r) (fun a w e hs => ⟨e.sub ⟨rfl, rfl, rfl, rfl, rfl, rfl, rfl, rfl, rfl, trivial⟩, (by exact hs)⟩) ?_ (fun K2 => ?_)
                         ·rintro ⟨K3, K4⟩ j; have j := (J9 _).symm.trans j
                          ·refine At.ibx ?_; refine At.thn (At.seq (sR 1 rfl (nT ?_))); refine At.block ?_; obtain ⟨K5, K6, W1, j⟩ := bjoin j; obtain ⟨z1, p4, K7⟩ := bsome j; clear j; unfold Q8.l5 at p4; obtain ⟨p5, h3⟩ := Q12.1 p4; clear p4; let b7 : HProp := row (Fl.int .i64) 3 d3 a8.length d4 K3; let b8 : HProp := row (Fl.int .i64) 3 d5 B.2.2.2.1.length d6 K4; refine At.loopJ (X := (List Q0) × Int) (Y := (List Q0)) (e0 := 4) (fun s_ => [(1, bp D), (3, .bool J), (4, bp I), (5, .slice E u.2.2.2.1.length G), (6, i6 1), (8, bp a5), (14, i6 s_.2)]) (fun s_ => b7 :: T4 :: b8 :: k5 :: row Q0.fl 35 g4 B.2.1.length g5 s_.1 :: d9 :: T8 :: T9 :: O :: a6 :: a9 :: L :: N :: a1 :: V :: T1 :: T2 :: T3 :: Fr) (fun m_ => fun s_ => iterN (fun t_ : (List Q0) × Int => Q8.l5b B t_.1 t_.2) m_ (s_.1, s_.2) = some z1) p5 (B.2.1, 0) h3 (fun e1 => [(1, bp D), (3, .bool J), (4, bp I), (5, .slice E u.2.2.2.1.length G), (6, i6 1), (8, bp a5)]) (fun e1 => b7 :: T4 :: b8 :: k5 :: row Q0.fl 35 g4 B.2.1.length g5 e1 :: d9 :: T8 :: T9 :: O :: a6 :: a9 :: L :: N :: a1 :: V :: T1 :: T2 :: T3 :: Fr) (fun e1 => K5 (.inl e1) = some r) (fun a w e hs => ⟨e.sub ⟨rfl, rfl, rfl, rfl, rfl, rfl, rfl, trivial⟩, (by exact hs)⟩) ?_ (fun K8 => ?_)
                           ·rintro e1 j; have j := (K6 _).symm.trans j
                            ·refine At.ibx ?_; refine At.thn (At.seq (sR 1 rfl (nT ?_))); refine At.block ?_; obtain ⟨K9, L0, W2, j⟩ := bjoin j; obtain ⟨z2, p6, L1⟩ := bsome j; clear j; unfold Q8.l6 at p6; obtain ⟨p7, h4⟩ := Q12.1 p6; clear p6; let e2 : HProp := row Q0.fl 35 g4 B.2.1.length g5 e1; refine At.loopJ (X := (List Bs) × Int) (Y := (List Bs)) (e0 := 6) (fun s_ => [(1, bp D), (3, .bool J), (4, bp I), (5, .slice E u.2.2.2.1.length G), (6, i6 1), (8, bp a5), (15, i6 s_.2)]) (fun s_ => b7 :: T4 :: b8 :: row Fl.bs 9 g6 B.2.2.1.length g7 s_.1 :: e2 :: d9 :: T8 :: T9 :: O :: a6 :: a9 :: L :: N :: a1 :: V :: T1 :: T2 :: T3 :: Fr) (fun m_ => fun s_ => iterN (fun t_ : (List Bs) × Int => Q8.l6b B t_.1 t_.2) m_ (s_.1, s_.2) = some z2) p7 (B.2.2.1, 0) h4 (fun e3 => [(1, bp D), (3, .bool J), (4, bp I), (5, .slice E u.2.2.2.1.length G), (6, i6 1), (8, bp a5)]) (fun e3 => b7 :: T4 :: b8 :: row Fl.bs 9 g6 B.2.2.1.length g7 e3 :: e2 :: d9 :: T8 :: T9 :: O :: a6 :: a9 :: L :: N :: a1 :: V :: T1 :: T2 :: T3 :: Fr) (fun e3 => K9 (.inl e3) = some r) (fun a w e hs => ⟨e.sub ⟨rfl, rfl, rfl, rfl, rfl, rfl, rfl, trivial⟩, (by exact hs)⟩) ?_ (fun L2 => ?_)
                             ·rintro e3 j; have j := (L0 _).symm.trans j
                              ·refine At.ibx ?_; refine At.thn (sR 1 rfl (nT ?_)); refine At.block ?_; obtain ⟨L3, L4, W3, j⟩ := bjoin j; obtain ⟨p8, p9, L5⟩ := bsome j; clear j; unfold Q8.l7 at p9; obtain ⟨q0, h5⟩ := Q12.1 p9; clear p9; refine At.toOgrow (.s (.s (.s (.s (.s .z))))) ?_; let k6 : HProp := row Fl.bs 9 g6 B.2.2.1.length g7 e3; refine At.loopJ (X := (List (Option Q1)) × Int) (Y := (List (Option Q1))) (e0 := 8) (fun s_ => [(1, bp D), (3, .bool J), (4, bp I), (5, .slice E u.2.2.2.1.length G), (6, i6 1), (8, bp a5), (16, i6 s_.2)]) (fun s_ => grow (Q1.ow.opt) 37 g2 B.1.length g3 s_.1 :: b7 :: T4 :: b8 :: k6 :: e2 :: T8 :: T9 :: O :: a6 :: a9 :: L :: N :: a1 :: V :: T1 :: T2 :: T3 :: Fr) (fun m_ => fun s_ => iterN (fun t_ : (List (Option Q1)) × Int => Q8.l7b B t_.1 t_.2) m_ (s_.1, s_.2) = some p8) q0 ((B.1.map some), 0) h5 (fun h6 => [(1, bp D), (3, .bool J), (4, bp I), (5, .slice E u.2.2.2.1.length G), (6, i6 1)]) (fun h6 => grow (Q1.ow.opt) 37 g2 B.1.length g3 h6 :: b7 :: T4 :: b8 :: k6 :: e2 :: T8 :: T9 :: O :: a6 :: a9 :: L :: N :: a1 :: V :: T1 :: T2 :: T3 :: Fr) (fun h6 => L3 (.inl h6) = some r) (fun a w e hs => ⟨e.sub ⟨rfl, rfl, rfl, rfl, rfl, rfl, rfl, trivial⟩, (by exact hs)⟩) ?_ (fun L6 => ?_)
                               ·rintro h6 j; have j := (L4 _).symm.trans j
                                ·refine At.ibx ?_; refine At.ibn ?_; refine At.thn (At.region (At.run 3 rfl (nT ?_))); refine At.round ?_; refine At.seq (sR 2 rfl (nT ?_)); refine At.condF rfl rfl ?_; refine At.exit ?_; refine At.the ?_; refine At.the ?_; refine At.ibx ?_; refine At.thn (sR 1 rfl (nT (At.ret (At.drop .z ?_)))); refine At.drop .z (At.drop .z (At.drop .z (At.drop .z (At.drop .z (At.drop .z (At.drop .z (At.drop .z ?_))))))); refine At.drop .z (At.drop .z (At.drop .z (At.drop .z (At.drop .z (At.drop .z (At.drop .z (At.drop .z ?_))))))); refine At.drop .z ?_; cases bret j; exact At.res (.inl rfl) rfl rfl ⟨rfl, rfl⟩
                               ·clear h5 q0; rintro q0 ⟨a2, Z⟩ h5; obtain ⟨L7, f_, L8, hf_, j⟩ := bit h5; clear h5; have j : (Q8.l7b B a2 Z).bind _ = some p8 := j; unfold Q8.l7b at j
                                ·refine At.seq (sR 2 rfl ?_); refine At.y (Y.load rfl rfl (.s (.s (.s (.s (.s (.s (.s (.s (.s .z))))))))) rfl rfl rfl) rfl rfl rfl ?_; refine At.run 2 rfl (nT ?_); rcases bite j with ⟨q2, j⟩ | ⟨q2, j⟩
                                 ··refine At.condT rfl (decide_eq_true q2) ?_
                                   refine At.skip (At.thn (At.seq ?_)); refine At.block ?_; refine At.seq ?_; obtain ⟨b9, j⟩ := bnone j; obtain ⟨L9, j⟩ := bnone j; refine At.openOgrow .z b9.1 b9.2 L9 (fun W5 => ?_); have M0 := j; refine At.ownPair (T := Ow.fl Fl.bs) (U := (Ow.sl (Fl.int .i64) 3)) (x := (((gt a2 Z).getD default).Name, ((gt a2 Z).getD default).States)) (.s .z) ?_; rintro W6 W7 rfl; refine At.ownFl (F := Fl.bs) (x := ((gt a2 Z).getD default).Name) .z ?_; rintro rfl; refine At.ownSl (F := (Fl.int .i64)) (e := 3) (xs := ((gt a2 Z).getD default).States) .z ?_; rintro M1 M2 rfl; have j := M0; refine At.region (At.run 1 rfl ?_); refine At.y (Y.load rfl rfl (.s (.s (.s (.s (.s (.s (.s (.s (.s (.s .z)))))))))) rfl rfl rfl) rfl rfl rfl ?_; refine At.run 1 rfl ?_; refine At.y (Y.ixGHole (.s .z) rfl rfl rfl rfl rfl rfl b9.1 b9.2) rfl rfl rfl ?_; refine At.y (Y.faGHole (.s .z) b9.1 b9.2 rfl rfl rfl rfl rfl rfl) rfl rfl rfl ?_; refine At.y (Y.ldGHole (q := 1) (.s .z) rfl rfl b9.1 b9.2 rfl rfl rfl) rfl rfl rfl ?_; refine At.lit rfl (xo := [.const (i6 3)]) (ys := ([3] : List Int)) (Fl.int .i64) rfl rfl rfl rfl rfl rfl rfl rfl rfl rfl rfl (fun W9 X0 => ?_); obtain ⟨M3, j⟩ := bnone j; refine At.append rfl (.s .z) (Src.own .z (by simp)) rfl rfl rfl rfl rfl rfl rfl rfl M3 (by decide) rfl (fun q3 q4 => ?_); refine At.drop (.s .z) (At.run 1 rfl (nT (sR 1 rfl (At.nil ?_)))); refine At.thn ?_; refine At.block ?_; obtain ⟨M4, M5, X1, j⟩ := bjoin j; obtain ⟨z3, q7, M6⟩ := bsome j; clear j; unfold Q8.l8 at q7; obtain ⟨q8, h7⟩ := Q12.1 q7; clear q7; let z4 : HProp := ghole (Q1.ow.opt) 37 g2 B.1.length g3 a2 Z [.string ⟨(((gt a2 Z).getD default).Name).toArray⟩, .slice M1 (((gt a2 Z).getD default).States.length) M2]; refine At.loopJ (X := (List Int) × Int) (Y := (List Int)) (e0 := 10) (fun s_ => [(1, bp D), (3, .bool J), (4, bp I), (5, .slice E u.2.2.2.1.length G), (6, i6 1), (8, bp a5), (16, i6 Z), (17, .slice q3 ((((gt a2 Z).getD default).States ++ ([3] : List Int)).length) q4), (18, i6 s_.2)]) (fun s_ => row (Fl.int .i64) 3 q3 ((((gt a2 Z).getD default).States ++ ([3] : List Int)).length) q4 s_.1 :: z4 :: b7 :: T4 :: b8 :: k6 :: e2 :: T8 :: T9 :: O :: a6 :: a9 :: L :: N :: a1 :: V :: T1 :: T2 :: T3 :: Fr) (fun m_ => fun s_ => iterN (fun t_ : (List Int) × Int => Q8.l8b a2 Z t_.1 t_.2) m_ (s_.1, s_.2) = some z3) q8 ((((gt a2 Z).getD default).States ++ ([3] : List Int)), 0) h7 (fun h8 => [(1, bp D), (3, .bool J), (4, bp I), (5, .slice E u.2.2.2.1.length G), (6, i6 1), (8, bp a5), (16, i6 Z)]) (fun h8 => row (Fl.int .i64) 3 q3 ((((gt a2 Z).getD default).States ++ ([3] : List Int)).length) q4 h8 :: z4 :: b7 :: T4 :: b8 :: k6 :: e2 :: T8 :: T9 :: O :: a6 :: a9 :: L :: N :: a1 :: V :: T1 :: T2 :: T3 :: Fr) (fun h8 => M4 (.inl h8) = some p8) (fun a w e hs => ⟨e.sub ⟨rfl, rfl, rfl, rfl, rfl, rfl, rfl, rfl, rfl, trivial⟩, (by exact hs)⟩) ?_ (fun M7 => ?_)
                                   ·rintro h8 j; have j := (M5 _).symm.trans j
                                    ·refine At.ibx ?_; refine At.ibn ?_; refine At.thn (At.region (At.run 3 rfl (At.nil ?_))); refine At.gholeGoneO (.s .z) rfl rfl ?_; refine At.drop (.s .z) ?_; have j := bnx hf_ j; exact fun a w e hs => ⟨L7, ((st a2 Z none), IntKind.i64.wrap (Z + 1)), L8, j, e.sub ⟨rfl, rfl, rfl, rfl, rfl, rfl, rfl, trivial⟩, hs⟩
                                   ·clear h7 q8; rintro q8 ⟨q9, r0⟩ h7; obtain ⟨M8, f_, M9, hf_, j⟩ := bit h7; clear h7; have j : (Q8.l8b a2 Z q9 r0).bind _ = some z3 := j; unfold Q8.l8b at j
                                    ·refine At.seq (sR 4 rfl (nT ?_)); rcases bite j with ⟨r1, j⟩ | ⟨r1, j⟩
                                     ··refine At.condT rfl (decide_eq_true r1) ?_
                                       refine At.skip (At.thn (At.seq ?_)); refine At.block ?_; refine At.region (At.run 2 rfl ?_); obtain ⟨k7, j⟩ := bnone j; refine At.y (Y.ix .z rfl rfl rfl rfl rfl rfl k7.1 k7.2) rfl rfl rfl ?_; refine At.st rfl .z (q := 0) (z := 77) rfl rfl rfl k7.1 k7.2 rfl rfl (.c .n) ?_; refine At.nil ?_; refine At.ibn ?_; refine At.thn (At.region (At.run 3 rfl (At.nil ?_))); have j := bnx hf_ j; exact fun a w e hs => ⟨M8, ((st q9 r0 77), IntKind.i64.wrap (r0 + 1)), M9, j, e.sub ⟨rfl, rfl, rfl, rfl, rfl, rfl, rfl, rfl, rfl, trivial⟩, hs⟩
                                     ··refine At.condF rfl (decide_eq_false r1) ?_
                                       refine At.exit ?_; refine At.the ?_; refine At.the ?_; exact fun a w e hs => M7 q9 (bdn j M6) a w (e.sub ⟨rfl, rfl, rfl, rfl, rfl, rfl, rfl, trivial⟩) hs
                                 ··refine At.condF rfl (decide_eq_false q2) ?_
                                   refine At.exit ?_; refine At.the ?_; refine At.the ?_; exact fun a w e hs => L6 a2 (bdn j L5) a w (e.sub ⟨rfl, rfl, rfl, rfl, rfl, trivial⟩) hs
                             ·clear h4 p7; rintro p7 ⟨r2, r3⟩ h4; obtain ⟨N0, f_, N1, hf_, j⟩ := bit h4; clear h4; have j : (Q8.l6b B r2 r3).bind _ = some z2 := j; unfold Q8.l6b at j
                              ·refine At.seq (sR 2 rfl ?_); refine At.y (Y.load rfl rfl (.s (.s (.s (.s (.s (.s (.s (.s (.s .z))))))))) rfl rfl rfl) rfl rfl rfl ?_; refine At.run 2 rfl (nT ?_); rcases bite j with ⟨r4, j⟩ | ⟨r4, j⟩
                               ··refine At.condT rfl (decide_eq_true r4) ?_
                                 refine At.skip (At.thn (At.seq ?_)); refine At.block ?_; refine At.region (At.run 1 rfl ?_); refine At.y (Y.load rfl rfl (.s (.s (.s (.s (.s (.s (.s (.s (.s .z))))))))) rfl rfl rfl) rfl rfl rfl ?_; refine At.run 1 rfl ?_; obtain ⟨k8, j⟩ := bnone j; refine At.y (Y.ix (.s (.s (.s .z))) rfl rfl rfl rfl rfl rfl k8.1 k8.2) rfl rfl rfl ?_; refine At.st rfl (.s (.s (.s .z))) (q := 0) (z := ([63] : Bs)) rfl rfl rfl k8.1 k8.2 rfl rfl (.c .n) ?_; refine At.nil ?_; refine At.ibn ?_; refine At.thn (At.region (At.run 3 rfl (At.nil ?_))); refine At.frt (.s (.s (.s (.s (.s (.s (.s (.s (.s (.s (.s (.s (.s (.s (.s (.s (.s .z))))))))))))))))) ?_; refine At.frt (.s (.s (.s (.s (.s (.s (.s (.s (.s (.s (.s (.s (.s (.s (.s (.s (.s .z))))))))))))))))) ?_; refine At.frt (.s (.s (.s (.s (.s (.s (.s (.s (.s (.s (.s (.s (.s (.s (.s (.s (.s .z))))))))))))))))) ?_; refine At.frt (.s (.s (.s (.s (.s (.s (.s (.s (.s (.s (.s (.s (.s (.s (.s (.s (.s .z))))))))))))))))) ?_; refine At.frt (.s (.s (.s (.s (.s (.s (.s (.s (.s (.s (.s (.s (.s (.s (.s (.s (.s .z))))))))))))))))) ?_; refine At.frt (.s (.s (.s (.s (.s (.s (.s (.s (.s (.s (.s (.s (.s (.s (.s (.s (.s .z))))))))))))))))) ?_; refine At.frt (.s (.s (.s (.s (.s (.s (.s (.s (.s (.s (.s (.s (.s (.s (.s (.s (.s .z))))))))))))))))) ?_; refine At.frt (.s (.s (.s (.s (.s (.s (.s (.s (.s (.s (.s (.s (.s (.s (.s (.s (.s .z))))))))))))))))) ?_; refine At.frt (.s (.s (.s (.s (.s (.s (.s (.s (.s (.s (.s (.s (.s (.s (.s (.s (.s .z))))))))))))))))) ?_; refine At.frt (.s (.s (.s (.s (.s (.s (.s (.s (.s (.s (.s (.s (.s (.s (.s (.s (.s .z))))))))))))))))) ?_; refine At.frt (.s (.s (.s (.s (.s (.s (.s (.s (.s (.s (.s (.s (.s (.s (.s (.s (.s .z))))))))))))))))) ?_; refine At.frt (.s (.s (.s (.s (.s (.s (.s (.s (.s (.s (.s (.s (.s (.s (.s (.s (.s .z))))))))))))))))) ?_; refine At.frt (.s (.s (.s (.s (.s (.s (.s (.s (.s (.s (.s (.s (.s (.s (.s (.s (.s .z))))))))))))))))) ?_; refine At.frt (.s (.s (.s (.s (.s (.s (.s (.s (.s (.s (.s (.s (.s (.s (.s (.s (.s .z))))))))))))))))) ?_; refine At.frt (.s (.s (.s (.s (.s (.s (.s (.s (.s (.s (.s (.s (.s (.s .z)))))))))))))) ?_; refine At.frt (.s (.s (.s (.s (.s (.s (.s (.s (.s (.s (.s (.s (.s (.s (.s (.s (.s .z))))))))))))))))) ?_; refine At.frt (.s (.s (.s (.s (.s (.s (.s (.s (.s (.s (.s (.s (.s (.s (.s (.s (.s .z))))))))))))))))) ?_; refine At.frt (.s (.s (.s (.s (.s (.s (.s (.s (.s (.s (.s (.s (.s (.s (.s (.s (.s .z))))))))))))))))) ?_; have j := bnx hf_ j; exact fun a w e hs => ⟨N0, ((st r2 r3 ([63] : Bs)), IntKind.i64.wrap (r3 + 1)), N1, j, e.sub ⟨rfl, rfl, rfl, rfl, rfl, rfl, rfl, trivial⟩, hs⟩
                               ··refine At.condF rfl (decide_eq_false r4) ?_
                                 refine At.exit ?_; refine At.the ?_; refine At.the ?_; exact fun a w e hs => L2 r2 (bdn j L1) a w (e.sub ⟨rfl, rfl, rfl, rfl, rfl, rfl, trivial⟩) hs
                           ·clear h3 p5; rintro p5 ⟨r5, r6⟩ h3; obtain ⟨N2, f_, N3, hf_, j⟩ := bit h3; clear h3; have j : (Q8.l5b B r5 r6).bind _ = some z1 := j; unfold Q8.l5b at j
                            ·refine At.seq (sR 2 rfl ?_); refine At.y (Y.load rfl rfl (.s (.s (.s (.s (.s (.s (.s (.s (.s .z))))))))) rfl rfl rfl) rfl rfl rfl ?_; refine At.run 2 rfl (nT ?_); rcases bite j with ⟨r7, j⟩ | ⟨r7, j⟩
                             ··refine At.condT rfl (decide_eq_true r7) ?_
                               refine At.skip (At.thn (At.seq ?_)); refine At.block ?_; refine At.region (At.run 1 rfl ?_); refine At.y (Y.load rfl rfl (.s (.s (.s (.s (.s (.s (.s (.s (.s .z))))))))) rfl rfl rfl) rfl rfl rfl ?_; refine At.run 1 rfl ?_; refine At.y (Y.build (is := []) (xo := []) (vs := []) (cs := [i6 0, i6 0, i6 0]) rfl rfl rfl rfl rfl rfl) rfl rfl rfl ?_; obtain ⟨k9, j⟩ := bnone j; refine At.y (Y.ix (.s (.s (.s (.s .z)))) rfl rfl rfl rfl rfl rfl k9.1 k9.2) rfl rfl rfl ?_; refine At.st rfl (.s (.s (.s (.s .z)))) (q := 0) (z := (⟨0, 0, 0⟩ : Q0)) rfl rfl rfl k9.1 k9.2 rfl rfl (.c (.c (.c .n))) ?_; refine At.nil ?_; refine At.ibn ?_; refine At.thn (At.region (At.run 3 rfl (At.nil ?_))); refine At.frt (.s (.s (.s (.s (.s (.s (.s (.s (.s (.s (.s (.s (.s (.s (.s (.s (.s .z))))))))))))))))) ?_; refine At.frt (.s (.s (.s (.s (.s (.s (.s (.s (.s (.s (.s (.s (.s (.s (.s (.s (.s .z))))))))))))))))) ?_; refine At.frt (.s (.s (.s (.s (.s (.s (.s (.s (.s (.s (.s (.s (.s (.s (.s (.s (.s .z))))))))))))))))) ?_; refine At.frt (.s (.s (.s (.s (.s (.s (.s (.s (.s (.s (.s (.s (.s (.s (.s (.s (.s .z))))))))))))))))) ?_; refine At.frt (.s (.s (.s (.s (.s (.s (.s (.s (.s (.s (.s (.s (.s (.s (.s (.s (.s .z))))))))))))))))) ?_; refine At.frt (.s (.s (.s (.s (.s (.s (.s (.s (.s (.s (.s (.s (.s (.s (.s (.s (.s .z))))))))))))))))) ?_; refine At.frt (.s (.s (.s (.s (.s (.s (.s (.s (.s (.s (.s (.s (.s (.s (.s (.s (.s .z))))))))))))))))) ?_; refine At.frt (.s (.s (.s (.s (.s (.s (.s (.s (.s (.s (.s (.s (.s (.s (.s (.s (.s .z))))))))))))))))) ?_; refine At.frt (.s (.s (.s (.s (.s (.s (.s (.s (.s (.s (.s (.s (.s (.s (.s (.s (.s .z))))))))))))))))) ?_; refine At.frt (.s (.s (.s (.s (.s (.s (.s (.s (.s (.s (.s (.s (.s (.s (.s (.s (.s .z))))))))))))))))) ?_; refine At.frt (.s (.s (.s (.s (.s (.s (.s (.s (.s (.s (.s (.s (.s (.s (.s (.s (.s .z))))))))))))))))) ?_; refine At.frt (.s (.s (.s (.s (.s (.s (.s (.s (.s (.s (.s (.s (.s (.s (.s (.s (.s .z))))))))))))))))) ?_; refine At.frt (.s (.s (.s (.s (.s (.s (.s (.s (.s (.s (.s (.s (.s (.s (.s (.s (.s .z))))))))))))))))) ?_; refine At.f13 ?_; refine At.frt (.s (.s (.s (.s (.s (.s (.s (.s (.s (.s (.s (.s (.s (.s (.s (.s (.s .z))))))))))))))))) ?_; refine At.frt (.s (.s (.s (.s (.s (.s (.s (.s (.s (.s (.s (.s (.s (.s (.s (.s (.s .z))))))))))))))))) ?_; refine At.frt (.s (.s (.s (.s (.s (.s (.s (.s (.s (.s (.s (.s (.s (.s (.s (.s (.s .z))))))))))))))))) ?_; refine At.frt (.s (.s (.s (.s (.s (.s (.s (.s (.s (.s (.s (.s (.s (.s (.s (.s (.s .z))))))))))))))))) ?_; have j := bnx hf_ j; exact fun a w e hs => ⟨N2, ((st r5 r6 (⟨0, 0, 0⟩ : Q0)), IntKind.i64.wrap (r6 + 1)), N3, j, e.sub ⟨rfl, rfl, rfl, rfl, rfl, rfl, rfl, trivial⟩, hs⟩
                             ··refine At.condF rfl (decide_eq_false r7) ?_
                               refine At.exit ?_; refine At.the ?_; refine At.the ?_; exact fun a w e hs => K8 r5 (bdn j K7) a w (e.sub ⟨rfl, rfl, rfl, rfl, rfl, rfl, trivial⟩) hs
                         ·clear h2 p3; rintro p3 ⟨r8, r9, m0⟩ h2; obtain ⟨N4, f_, N5, hf_, j⟩ := bit h2; clear h2; have j : (Q8.l4b a8 B r8 r9 m0).bind _ = some y9 := j; unfold Q8.l4b at j
                          ·refine At.seq (sR 4 rfl (nT ?_)); rcases bite j with ⟨s0, j⟩ | ⟨s0, j⟩
                           ··refine At.condT rfl (decide_eq_true s0) ?_
                             refine At.skip (At.thn (At.seq ?_)); refine At.block ?_; refine sR 2 rfl ?_; obtain ⟨m1, j⟩ := bnone j; refine At.y (Y.ix .z rfl rfl rfl rfl rfl rfl m1.1 m1.2) rfl rfl rfl ?_; refine At.st rfl .z (q := 0) (z := (-1)) rfl rfl rfl m1.1 m1.2 rfl rfl (.c .n) ?_; refine nT (At.region (At.run 2 rfl ?_)); obtain ⟨m2, j⟩ := bnone j; refine At.y (Y.ix (.s (.s .z)) rfl rfl rfl rfl rfl rfl m2.1 m2.2) rfl rfl rfl ?_; refine At.st rfl (.s (.s .z)) (q := 0) (z := (-1)) rfl rfl rfl m2.1 m2.2 rfl rfl (.c .n) ?_; refine At.nil ?_; refine At.ibn ?_; refine At.thn (At.region (At.run 3 rfl (At.nil ?_))); refine At.frt (.s (.s (.s (.s (.s (.s (.s (.s (.s (.s (.s (.s (.s (.s (.s (.s (.s .z))))))))))))))))) ?_; refine At.frt (.s (.s (.s (.s (.s (.s (.s (.s (.s (.s (.s (.s (.s (.s (.s (.s (.s .z))))))))))))))))) ?_; refine At.frt (.s (.s (.s (.s (.s (.s (.s (.s (.s (.s (.s (.s (.s (.s (.s (.s (.s .z))))))))))))))))) ?_; refine At.frt (.s (.s (.s (.s (.s (.s (.s (.s (.s (.s (.s (.s (.s (.s (.s (.s (.s .z))))))))))))))))) ?_; refine At.frt (.s (.s (.s (.s (.s (.s (.s (.s (.s (.s (.s (.s (.s (.s (.s (.s (.s .z))))))))))))))))) ?_; refine At.frt (.s (.s (.s (.s (.s (.s (.s (.s (.s (.s (.s (.s (.s (.s (.s (.s (.s .z))))))))))))))))) ?_; refine At.frt (.s (.s (.s (.s (.s (.s (.s (.s (.s (.s (.s (.s (.s (.s (.s (.s (.s .z))))))))))))))))) ?_; refine At.frt (.s (.s (.s (.s (.s (.s (.s (.s (.s (.s (.s (.s (.s (.s (.s (.s (.s .z))))))))))))))))) ?_; refine At.frt (.s (.s (.s (.s (.s (.s (.s (.s (.s (.s (.s (.s (.s (.s (.s (.s (.s .z))))))))))))))))) ?_; refine At.frt (.s (.s (.s (.s (.s (.s (.s (.s (.s (.s (.s (.s (.s (.s (.s (.s (.s .z))))))))))))))))) ?_; refine At.frt (.s (.s (.s (.s (.s (.s (.s (.s (.s (.s (.s (.s (.s (.s (.s (.s (.s .z))))))))))))))))) ?_; refine At.frt (.s (.s (.s (.s (.s (.s (.s (.s (.s (.s (.s (.s (.s (.s (.s (.s (.s .z))))))))))))))))) ?_; refine At.frt (.s (.s (.s (.s (.s (.s (.s (.s (.s (.s (.s (.s (.s (.s (.s (.s (.s .z))))))))))))))))) ?_; refine At.frt (.s (.s (.s (.s (.s (.s (.s (.s (.s (.s (.s (.s (.s (.s (.s (.s (.s .z))))))))))))))))) ?_; refine At.frt (.s (.s (.s (.s (.s (.s (.s (.s (.s (.s (.s (.s (.s (.s (.s (.s (.s .z))))))))))))))))) ?_; refine At.frt (.s (.s (.s (.s (.s (.s (.s (.s (.s (.s (.s (.s (.s (.s (.s .z))))))))))))))) ?_; refine At.frt (.s (.s (.s (.s (.s (.s (.s (.s (.s (.s (.s (.s (.s (.s (.s (.s (.s .z))))))))))))))))) ?_; refine At.frt (.s (.s (.s (.s (.s (.s (.s (.s (.s (.s (.s (.s (.s (.s (.s (.s (.s .z))))))))))))))))) ?_; have j := bnx hf_ j; exact fun a w e hs => ⟨N4, ((st r8 m0 (-1)), (st r9 m0 (-1)), IntKind.i64.wrap (m0 + 1)), N5, j, e.sub ⟨rfl, rfl, rfl, rfl, rfl, rfl, rfl, rfl, rfl, trivial⟩, hs⟩
                           ··refine At.condF rfl (decide_eq_false s0) ?_
                             refine At.exit ?_; refine At.the ?_; refine At.the ?_; exact fun a w e hs => K2 (r8, r9) (bdn j K0) a w (e.sub ⟨rfl, rfl, rfl, rfl, rfl, rfl, trivial⟩) hs
                     ··rcases bite j with ⟨s1, j⟩ | ⟨s1, j⟩
                       ··refine At.know (t := 55) rfl s1 ?_
                         refine At.run 3 rfl ?_; exact At.of (y8 true j) ⟨rfl, rfl, rfl, rfl, rfl, rfl, rfl, rfl, rfl, trivial⟩
                       ··refine At.know (t := 55) rfl (bn s1) ?_
                         refine At.run 3 rfl ?_; exact At.of (y8 (!p0) j) ⟨rfl, rfl, rfl, rfl, rfl, rfl, rfl, rfl, rfl, trivial⟩
                   ··rcases bite j with ⟨s2, j⟩ | ⟨s2, j⟩
                     ··refine At.know (t := 51) rfl s2 ?_
                       refine At.run 3 rfl ?_; exact At.of (y7 true j) ⟨rfl, rfl, rfl, rfl, rfl, rfl, rfl, rfl, rfl, rfl, trivial⟩
                     ··refine At.know (t := 51) rfl (bn s2) ?_
                       refine At.run 3 rfl ?_; exact At.of (y7 (!x8) j) ⟨rfl, rfl, rfl, rfl, rfl, rfl, rfl, rfl, rfl, rfl, trivial⟩
                 ··rcases bite j with ⟨s3, j⟩ | ⟨s3, j⟩
                   ··refine At.know (t := 47) rfl (nf s3) ?_
                     refine At.run 3 rfl ?_; exact At.of (y6 (!G5) j) ⟨rfl, rfl, rfl, rfl, rfl, rfl, rfl, rfl, rfl, rfl, rfl, trivial⟩
                   ··refine At.know (t := 47) rfl (nt (bn s3)) ?_
                     refine At.run 3 rfl ?_; exact At.of (y6 true j) ⟨rfl, rfl, rfl, rfl, rfl, rfl, rfl, rfl, rfl, rfl, rfl, trivial⟩
               ·clear g1 o8; rintro o8 ⟨a3, a0⟩ g1; obtain ⟨N6, f_, N7, hf_, j⟩ := bit g1; clear g1; have j : (Q8.l3b p a3 a0).bind _ = some o0 := j; unfold Q8.l3b at j
                ·refine At.seq (sR 2 rfl ?_); refine At.y (Y.load rfl rfl (.s (.s (.s (.s (.s (.s (.s (.s (.s .z))))))))) rfl rfl rfl) rfl rfl rfl ?_; refine At.run 2 rfl (nT ?_); rcases bite j with ⟨s4, j⟩ | ⟨s4, j⟩
                 ··refine At.condT rfl (decide_eq_true s4) ?_
                   refine At.skip (At.thn (At.seq ?_)); refine At.block ?_; refine At.seq ?_; obtain ⟨c8, j⟩ := bnone j; obtain ⟨N8, j⟩ := bnone j; refine At.openOgrow .z c8.1 c8.2 N8 (fun X2 => ?_); have N9 := j; refine At.ownPair (T := Ow.fl Fl.bs) (U := (Ow.sl (Fl.int .i64) 3)) (x := (((gt a3 a0).getD default).Name, ((gt a3 a0).getD default).States)) (.s .z) ?_; rintro X3 X4 rfl; refine At.ownFl (F := Fl.bs) (x := ((gt a3 a0).getD default).Name) .z ?_; rintro rfl; refine At.ownSl (F := (Fl.int .i64)) (e := 3) (xs := ((gt a3 a0).getD default).States) .z ?_; rintro O0 O1 rfl; have j := N9; refine At.region (At.run 1 rfl ?_); refine At.y (Y.load rfl rfl (.s (.s (.s (.s (.s (.s (.s (.s (.s (.s .z)))))))))) rfl rfl rfl) rfl rfl rfl ?_; refine At.run 1 rfl ?_; refine At.y (Y.ixGHole (.s .z) rfl rfl rfl rfl rfl rfl c8.1 c8.2) rfl rfl rfl ?_; refine At.y (Y.faGHole (.s .z) c8.1 c8.2 rfl rfl rfl rfl rfl rfl) rfl rfl rfl ?_; refine At.y (Y.ldGHole (q := 1) (.s .z) rfl rfl c8.1 c8.2 rfl rfl rfl) rfl rfl rfl ?_; refine At.lit rfl (xo := [.const (i6 3)]) (ys := ([3] : List Int)) (Fl.int .i64) rfl rfl rfl rfl rfl rfl rfl rfl rfl rfl rfl (fun X5 X6 => ?_); obtain ⟨O2, j⟩ := bnone j; refine At.append rfl (.s .z) (Src.own .z (by simp)) rfl rfl rfl rfl rfl rfl rfl rfl O2 (by decide) rfl (fun s5 s6 => ?_); refine At.drop (.s .z) (At.run 1 rfl (nT (sR 1 rfl (At.nil ?_)))); refine At.thn ?_; refine At.block ?_; obtain ⟨O3, O4, X7, j⟩ := bjoin j; obtain ⟨z5, s7, O5⟩ := bsome j; clear j; unfold Q8.l9 at s7; obtain ⟨s8, h9⟩ := Q12.1 s7; clear s7; let z6 : HProp := ghole (Q1.ow.opt) 37 b4 p.1.length b5 a3 a0 [.string ⟨(((gt a3 a0).getD default).Name).toArray⟩, .slice O0 (((gt a3 a0).getD default).States.length) O1]; refine At.loopJ (X := (List Int) × Int) (Y := (List Int)) (e0 := 10) (fun s_ => [(1, bp D), (3, .bool J), (4, bp I), (5, .slice E u.2.2.2.1.length G), (6, i6 0), (8, bp a4), (16, i6 a0), (17, .slice s5 ((((gt a3 a0).getD default).States ++ ([3] : List Int)).length) s6), (18, i6 s_.2)]) (fun s_ => row (Fl.int .i64) 3 s5 ((((gt a3 a0).getD default).States ++ ([3] : List Int)).length) s6 s_.1 :: z6 :: L :: T4 :: N :: a1 :: V :: T8 :: T9 :: O :: T1 :: T2 :: T3 :: Fr) (fun m_ => fun s_ => iterN (fun t_ : (List Int) × Int => Q8.l9b a3 a0 t_.1 t_.2) m_ (s_.1, s_.2) = some z5) s8 ((((gt a3 a0).getD default).States ++ ([3] : List Int)), 0) h9 (fun k1 => [(1, bp D), (3, .bool J), (4, bp I), (5, .slice E u.2.2.2.1.length G), (6, i6 0), (8, bp a4), (16, i6 a0)]) (fun k1 => row (Fl.int .i64) 3 s5 ((((gt a3 a0).getD default).States ++ ([3] : List Int)).length) s6 k1 :: z6 :: L :: T4 :: N :: a1 :: V :: T8 :: T9 :: O :: T1 :: T2 :: T3 :: Fr) (fun k1 => O3 (.inl k1) = some o0) (fun a w e hs => ⟨e.sub ⟨rfl, rfl, rfl, rfl, rfl, rfl, rfl, rfl, rfl, trivial⟩, (by exact hs)⟩) ?_ (fun O6 => ?_)
                   ·rintro k1 j; have j := (O4 _).symm.trans j
                    ·refine At.ibx ?_; refine At.ibn ?_; refine At.thn (At.region (At.run 3 rfl (At.nil ?_))); refine At.gholeGoneO (.s .z) rfl rfl ?_; refine At.drop (.s .z) ?_; have j := bnx hf_ j; exact fun a w e hs => ⟨N6, ((st a3 a0 none), IntKind.i64.wrap (a0 + 1)), N7, j, e.sub ⟨rfl, rfl, rfl, rfl, rfl, rfl, rfl, trivial⟩, hs⟩
                   ·clear h9 s8; rintro s8 ⟨s9, t0⟩ h9; obtain ⟨O7, f_, O8, hf_, j⟩ := bit h9; clear h9; have j : (Q8.l9b a3 a0 s9 t0).bind _ = some z5 := j; unfold Q8.l9b at j
                    ·refine At.seq (sR 4 rfl (nT ?_)); rcases bite j with ⟨t1, j⟩ | ⟨t1, j⟩
                     ··refine At.condT rfl (decide_eq_true t1) ?_
                       refine At.skip (At.thn (At.seq ?_)); refine At.block ?_; refine At.region (At.run 2 rfl ?_); obtain ⟨m3, j⟩ := bnone j; refine At.y (Y.ix .z rfl rfl rfl rfl rfl rfl m3.1 m3.2) rfl rfl rfl ?_; refine At.st rfl .z (q := 0) (z := 77) rfl rfl rfl m3.1 m3.2 rfl rfl (.c .n) ?_; refine At.nil ?_; refine At.ibn ?_; refine At.thn (At.region (At.run 3 rfl (At.nil ?_))); have j := bnx hf_ j; exact fun a w e hs => ⟨O7, ((st s9 t0 77), IntKind.i64.wrap (t0 + 1)), O8, j, e.sub ⟨rfl, rfl, rfl, rfl, rfl, rfl, rfl, rfl, rfl, trivial⟩, hs⟩
                     ··refine At.condF rfl (decide_eq_false t1) ?_
                       refine At.exit ?_; refine At.the ?_; refine At.the ?_; exact fun a w e hs => O6 s9 (bdn j O5) a w (e.sub ⟨rfl, rfl, rfl, rfl, rfl, rfl, rfl, trivial⟩) hs
                 ··refine At.condF rfl (decide_eq_false s4) ?_
                   refine At.exit ?_; refine At.the ?_; refine At.the ?_; exact fun a w e hs => F8 a3 (bdn j F7) a w (e.sub ⟨rfl, rfl, rfl, rfl, rfl, trivial⟩) hs
             ·clear g0 n9; rintro n9 ⟨t3, t4⟩ g0; obtain ⟨O9, f_, P0, hf_, j⟩ := bit g0; clear g0; have j : (Q8.l2b p t3 t4).bind _ = some x1 := j; unfold Q8.l2b at j
              ·refine At.seq (sR 2 rfl ?_); refine At.y (Y.load rfl rfl (.s (.s (.s (.s (.s (.s (.s (.s (.s .z))))))))) rfl rfl rfl) rfl rfl rfl ?_; refine At.run 2 rfl (nT ?_); rcases bite j with ⟨t5, j⟩ | ⟨t5, j⟩
               ··refine At.condT rfl (decide_eq_true t5) ?_
                 refine At.skip (At.thn (At.seq ?_)); refine At.block ?_; refine At.region (At.run 1 rfl ?_); refine At.y (Y.load rfl rfl (.s (.s (.s (.s (.s (.s (.s (.s (.s .z))))))))) rfl rfl rfl) rfl rfl rfl ?_; refine At.run 1 rfl ?_; obtain ⟨m4, j⟩ := bnone j; refine At.y (Y.ix (.s (.s (.s .z))) rfl rfl rfl rfl rfl rfl m4.1 m4.2) rfl rfl rfl ?_; refine At.st rfl (.s (.s (.s .z))) (q := 0) (z := ([63] : Bs)) rfl rfl rfl m4.1 m4.2 rfl rfl (.c .n) ?_; refine At.nil ?_; refine At.ibn ?_; refine At.thn (At.region (At.run 3 rfl (At.nil (At.f11 (At.f11 (At.f11 (At.f11 ?_))))))); refine At.f11 (At.f11 (At.f11 (At.f11 (At.f8 (At.f11 (At.f11 (At.f11 ?_))))))); have j := bnx hf_ j; exact fun a w e hs => ⟨O9, ((st t3 t4 ([63] : Bs)), IntKind.i64.wrap (t4 + 1)), P0, j, e.sub ⟨rfl, rfl, rfl, rfl, rfl, rfl, rfl, trivial⟩, hs⟩
               ··refine At.condF rfl (decide_eq_false t5) ?_
                 refine At.exit ?_; refine At.the ?_; refine At.the ?_; exact fun a w e hs => F4 t3 (bdn j F3) a w (e.sub ⟨rfl, rfl, rfl, rfl, rfl, rfl, trivial⟩) hs
           ·clear f6 n7; rintro n7 ⟨t6, t7⟩ f6; obtain ⟨P1, f_, P2, hf_, j⟩ := bit f6; clear f6; have j : (Q8.l1b p t6 t7).bind _ = some x0 := j; unfold Q8.l1b at j
            ·refine At.seq (sR 2 rfl ?_); refine At.y (Y.load rfl rfl (.s (.s (.s (.s (.s (.s (.s (.s (.s .z))))))))) rfl rfl rfl) rfl rfl rfl ?_; refine At.run 2 rfl (nT ?_); rcases bite j with ⟨t8, j⟩ | ⟨t8, j⟩
             ··refine At.condT rfl (decide_eq_true t8) ?_
               refine At.skip (At.thn (At.seq ?_)); refine At.block ?_; refine At.region (At.run 1 rfl ?_); refine At.y (Y.load rfl rfl (.s (.s (.s (.s (.s (.s (.s (.s (.s .z))))))))) rfl rfl rfl) rfl rfl rfl ?_; refine At.run 1 rfl ?_; refine At.y (Y.build (is := []) (xo := []) (vs := []) (cs := [i6 0, i6 0, i6 0]) rfl rfl rfl rfl rfl rfl) rfl rfl rfl ?_; obtain ⟨m5, j⟩ := bnone j; refine At.y (Y.ix (.s (.s (.s (.s .z)))) rfl rfl rfl rfl rfl rfl m5.1 m5.2) rfl rfl rfl ?_; refine At.st rfl (.s (.s (.s (.s .z)))) (q := 0) (z := (⟨0, 0, 0⟩ : Q0)) rfl rfl rfl m5.1 m5.2 rfl rfl (.c (.c (.c .n))) ?_; refine At.nil ?_; refine At.ibn ?_; refine At.thn (At.region (At.run 3 rfl (At.nil (At.f11 (At.f11 (At.f11 (At.f11 ?_))))))); refine At.f11 (At.f11 (At.f11 (At.f7 (At.f11 (At.f11 (At.f11 (At.f11 ?_))))))); have j := bnx hf_ j; exact fun a w e hs => ⟨P1, ((st t6 t7 (⟨0, 0, 0⟩ : Q0)), IntKind.i64.wrap (t7 + 1)), P2, j, e.sub ⟨rfl, rfl, rfl, rfl, rfl, rfl, rfl, trivial⟩, hs⟩
             ··refine At.condF rfl (decide_eq_false t8) ?_
               refine At.exit ?_; refine At.the ?_; refine At.the ?_; exact fun a w e hs => F0 t6 (bdn j E9) a w (e.sub ⟨rfl, rfl, rfl, rfl, rfl, rfl, trivial⟩) hs
         ·clear f5 n5; rintro n5 ⟨t9, u0, m6⟩ f5; obtain ⟨P3, f_, P4, hf_, j⟩ := bit f5; clear f5; have j : (Q8.l0b a7 p t9 u0 m6).bind _ = some w9 := j; unfold Q8.l0b at j
          ·refine At.seq (sR 4 rfl (nT ?_)); rcases bite j with ⟨u1, j⟩ | ⟨u1, j⟩
           ··refine At.condT rfl (decide_eq_true u1) ?_
             refine At.skip (At.thn (At.seq ?_)); refine At.block ?_; refine sR 2 rfl ?_; obtain ⟨m7, j⟩ := bnone j; refine At.y (Y.ix .z rfl rfl rfl rfl rfl rfl m7.1 m7.2) rfl rfl rfl ?_; refine At.st rfl .z (q := 0) (z := (-1)) rfl rfl rfl m7.1 m7.2 rfl rfl (.c .n) ?_; refine nT (At.region (At.run 2 rfl ?_)); obtain ⟨m8, j⟩ := bnone j; refine At.y (Y.ix (.s (.s .z)) rfl rfl rfl rfl rfl rfl m8.1 m8.2) rfl rfl rfl ?_; refine At.st rfl (.s (.s .z)) (q := 0) (z := (-1)) rfl rfl rfl m8.1 m8.2 rfl rfl (.c .n) ?_; refine At.nil ?_; refine At.ibn ?_; refine At.thn (At.region (At.run 3 rfl (At.nil (At.f11 (At.f11 (At.f11 (At.f11 ?_))))))); refine At.f11 (At.f11 (At.f11 (At.f11 (At.f11 (At.f9 (At.f11 (At.f11 ?_))))))); have j := bnx hf_ j; exact fun a w e hs => ⟨P3, ((st t9 m6 (-1)), (st u0 m6 (-1)), IntKind.i64.wrap (m6 + 1)), P4, j, e.sub ⟨rfl, rfl, rfl, rfl, rfl, rfl, rfl, rfl, rfl, trivial⟩, hs⟩
           ··refine At.condF rfl (decide_eq_false u1) ?_
             refine At.exit ?_; refine At.the ?_; refine At.the ?_; exact fun a w e hs => E4 (t9, u0) (bdn j E3) a w (e.sub ⟨rfl, rfl, rfl, rfl, rfl, rfl, trivial⟩) hs
     ··rcases bite j with ⟨u2, j⟩ | ⟨u2, j⟩
       ··refine At.know (t := 55) rfl u2 ?_
         refine At.run 3 rfl ?_; exact At.of (w8 true j) ⟨rfl, rfl, rfl, rfl, rfl, rfl, rfl, rfl, rfl, trivial⟩
       ··refine At.know (t := 55) rfl (bn u2) ?_
         refine At.run 3 rfl ?_; exact At.of (w8 (!n2) j) ⟨rfl, rfl, rfl, rfl, rfl, rfl, rfl, rfl, rfl, trivial⟩
   ··rcases bite j with ⟨u3, j⟩ | ⟨u3, j⟩
     ··refine At.know (t := 51) rfl u3 ?_
       refine At.run 3 rfl ?_; exact At.of (w7 true j) ⟨rfl, rfl, rfl, rfl, rfl, rfl, rfl, rfl, rfl, rfl, trivial⟩
     ··refine At.know (t := 51) rfl (bn u3) ?_
       refine At.run 3 rfl ?_; exact At.of (w7 (!v8) j) ⟨rfl, rfl, rfl, rfl, rfl, rfl, rfl, rfl, rfl, rfl, trivial⟩
 ··rcases bite j with ⟨u4, j⟩ | ⟨u4, j⟩
   ··refine At.know (t := 47) rfl (nf u4) ?_
     refine At.run 3 rfl ?_; exact At.of (w6 (!A7) j) ⟨rfl, rfl, rfl, rfl, rfl, rfl, rfl, rfl, rfl, rfl, rfl, trivial⟩
   ··refine At.know (t := 47) rfl (nt (bn u4)) ?_
     refine At.run 3 rfl ?_; exact At.of (w6 true j) ⟨rfl, rfl, rfl, rfl, rfl, rfl, rfl, rfl, rfl, rfl, rfl, trivial⟩

end Go.Bw
namespace Go.Bw
open Go Go.RowKit

def Ap {α : Type} (a b : Option α) : Prop := ∀ r, a = some r → b = some r
section
variable {α β σ τ ρ : Type}
theorem Ap.refl (a : Option α) : Ap a a := fun _ h => h
theorem Ap.none {b : Option α} : Ap Option.none b := fun _ h => by cases h
theorem Ap.bind {a b : Option α} {f g : α → Option β} (h : Ap a b) (k : ∀ t, Ap (f t) (g t)) : Ap (a.bind f) (b.bind g) := fun r e => by
 cases ha : a with
 | none => rw [ha] at e; cases e
 | some t => rw [ha] at e; rw [h t ha]; exact k t r e
theorem Ap.ite {c : Prop} [i : Decidable c] [j : Decidable c] {a b a' b' : Option α} (h : Ap a a') (k : Ap b b') : Ap (@_root_.ite _ c i a b) (@_root_.ite _ c j a' b') := fun r e => by
 by_cases hc : c
 ·rw [if_pos hc] at e ⊢; exact h r e
 ·rw [if_neg hc] at e ⊢; exact k r e
theorem Ap.jn {a b : Option (σ ⊕ ρ)} {f g : σ → Option ρ} (h : Ap a b) (k : ∀ t, Ap (f t) (g t)) : Ap (Bw.jn a f) (Bw.jn b g) := fun r e => by
 cases ha : a with
 | none => rw [ha] at e; cases e
 | some t =>
  rw [ha] at e
  rw [h t ha]
  cases t with
  | inl s => exact k s r e
  | inr o => exact e
theorem Ap.up {a b : Option ρ} (h : Ap a b) : Ap (Bw.up a : Option (σ ⊕ ρ)) (Bw.up b) := fun r e => by
 cases ha : a with
 | none => rw [ha] at e; cases e
 | some t => rw [ha] at e; rw [h t ha]; exact e
def iterC (fu : Nat) (body : σ → Option (σ ⊕ ρ)) (s : σ) : Option ρ := iterN body fu s
theorem Q254 {f g : σ → Option (σ ⊕ ρ)} (h : ∀ s, Ap (f s) (g s)) : ∀ {n : Nat} {s : σ}, Ap (iterN f n s) (iterN g n s)
 | 0, _ => fun _ e => by cases e
 | n + 1, s => fun r e => by
  unfold iterN at e ⊢
  cases hf : f s with
  | none => rw [hf] at e; cases e
  | some t =>
   rw [hf] at e
   rw [h s t hf]
   cases t with
   | inl s' => exact Q254 h r e
   | inr o => exact e
theorem Ap.iter {fu : Nat} {f g : σ → Option (σ ⊕ ρ)} {s : σ} (h : ∀ s, Ap (f s) (g s)) : Ap (iterC fu f s) (Bw.iter g s) := fun r e => Q12.2 ⟨fu, Q254 h r e⟩
theorem Q247 {f g : σ → α → Option σ} (h : ∀ s x, Ap (f s x) (g s x)) : ∀ {xs : List α} {s : σ}, Ap (foldO f s xs) (foldO g s xs)
 | [], _ => fun _ e => e
 | x :: xs, s => Ap.bind (h s x) fun t => Q247 h
def orderedC (kvs : List α) (step : σ → α → Option σ) (s0 : σ) (out : σ → τ) (f : τ → Option β) : Option β := if kvs.length ≤ 1 then (foldO step s0 kvs).bind fun s => f (out s) else Option.none
theorem Ap.ordered {kvs : List α} {f g : σ → α → Option σ} {s0 : σ} {out : σ → τ} {p q : τ → Option β} (h : ∀ s x, Ap (f s x) (g s x)) (k : ∀ t, Ap (p t) (q t)) : Ap (orderedC kvs f s0 out p) (Bw.ordered kvs g s0 out q) := fun r e => by
 unfold orderedC at e
 split at e
 ·rename_i hl
  refine Q245.2 fun ys hy => ?_
  have : ys = kvs := by
   match kvs, hl with
   | [], _ => exact hy.eq_nil
   | [x], _ => exact List.perm_singleton.1 hy
   | _ :: _ :: _, hl => simp at hl
  subst this
  exact Ap.bind (Q247 h) (fun t => k _) r e
 ·cases e
def soloC (a : List α) : Option (List α) := if a.length ≤ 1 then some a else Option.none
theorem Q221 {a r : List α} (h : soloC a = some r) : r = a ∧ (a = [] ∨ ∃ x, a = [x]) := by
 unfold soloC at h
 split at h
 ·rename_i hl
  refine ⟨(Option.some.inj h).symm, ?_⟩
  match a, hl with
  | [], _ => exact .inl rfl
  | [x], _ => exact .inr ⟨x, rfl⟩
  | _ :: _ :: _, hl => simp at hl
 ·cases h
end
end Go.Bw
namespace Go.Bw
open Go Go.RowKit Go.Proofs Go.Sort

def cmp3 (a b : Int) : Int := if a < b then -1 else if b < a then 1 else 0
theorem Q251 (a b : Int) : Q66.f a b = some (cmp3 a b) := by
 unfold Q66.f Q98.f cmp3
 simp
 split
 ·rfl
 ·split <;> rfl
theorem Q157 {a b : Int} : cmp3 a b < 0 ↔ a < b := by
 unfold cmp3
 split
 ·simp [*]
 ·split <;> simp <;> omega
theorem Q182 {a b : Int} : cmp3 a b = 0 ↔ a = b := by
 unfold cmp3
 split
 ·simp; omega
 ·split <;> simp <;> omega
theorem or_run (a b c : Int) : Q37.f [a, b, c] = some (if a = 0 then if b = 0 then c else b else a) := by
 unfold Q37.f Q37.l0
 by_cases ha : a = 0
 ·by_cases hb : b = 0
  ·by_cases hc : c = 0
   ·subst ha hb hc
    rw [Q67, Q37.l0b]
    simp [nx, gt, IntKind.wrap, IntKind.bits, IntKind.signed]
    rw [Q67, Q37.l0b]
    simp [nx, gt, IntKind.wrap, IntKind.bits, IntKind.signed]
    rw [Q67, Q37.l0b]
    simp [nx, gt, IntKind.wrap, IntKind.bits, IntKind.signed]
    rw [Q67, Q37.l0b]
    simp [dn, jn]
   ·subst ha hb
    rw [Q67, Q37.l0b]
    simp [nx, gt, IntKind.wrap, IntKind.bits, IntKind.signed]
    rw [Q67, Q37.l0b]
    simp [nx, gt, IntKind.wrap, IntKind.bits, IntKind.signed]
    rw [Q67, Q37.l0b]
    simp [nx, gt, hc, upL, jn]
  ·subst ha
   rw [Q67, Q37.l0b]
   simp [nx, gt, IntKind.wrap, IntKind.bits, IntKind.signed]
   rw [Q67, Q37.l0b]
   simp [nx, gt, hb, upL, jn]
 ·rw [Q67, Q37.l0b]
  simp [nx, gt, ha, upL, jn]
def edgeCmp (x y : Q0) : Int := if cmp3 x.From y.From = 0 then if cmp3 x.Action y.Action = 0 then cmp3 x.To y.To else cmp3 x.Action y.Action else cmp3 x.From y.From
theorem Q279 (x y : Q0) : Q91.f x.From x.Action x.To y.From y.Action y.To = some (edgeCmp x y) := by
 unfold Q91.f
 simp only [Q251, Option.bind_some, or_run]
 rfl
theorem Q241 (x y : Q0) : Q43.cmp x y = some (edgeCmp x y) := Q279 x y
def edgeLt (x y : Q0) : Prop := x.From < y.From ∨ x.From = y.From ∧ (x.Action < y.Action ∨ x.Action = y.Action ∧ x.To < y.To)
theorem Q200 {x y : Q0} : edgeCmp x y < 0 ↔ edgeLt x y := by
 unfold edgeCmp edgeLt
 by_cases h1 : x.From = y.From
 ·rw [if_pos (Q182.2 h1)]
  by_cases h2 : x.Action = y.Action
  ·rw [if_pos (Q182.2 h2), Q157]; omega
  ·rw [if_neg (fun h => h2 (Q182.1 h)), Q157]; omega
 ·rw [if_neg (fun h => h1 (Q182.1 h)), Q157]; omega
theorem Q147 (x y : Q0) : ltOf (gcf Q43.cmp) x y = true ↔ edgeLt x y := by
 unfold ltOf gcf
 rw [Q241]
 simp [Q200]
theorem edge_ltOf' (x y : Q0) : ltOf (gcf Q43.cmp) x y = false ↔ ¬ edgeLt x y := by
 rw [← Q147]; simp
theorem edge_tot : CmpTot Q43.cmp := by
 refine ⟨⟨fun x y => by rw [Q241]; rfl, fun x => ?_, fun x y z h1 h2 => ?_, fun x y z h1 h2 => ?_⟩, fun x y h1 h2 => ?_⟩
 ·rw [edge_ltOf']; unfold edgeLt; omega
 ·rw [Q147] at *; unfold edgeLt at *; omega
 ·rw [edge_ltOf'] at *; unfold edgeLt at *; omega
 ·rw [edge_ltOf'] at *
  unfold edgeLt at *
  cases x
  cases y
  simp at *
  omega
theorem Q194 : ∀ (x : Bs), Lib.compareBytes x x = 0
 | [] => rfl
 | a :: x => by unfold Lib.compareBytes; rw [if_neg (UInt8.lt_irrefl a), if_neg (UInt8.lt_irrefl a)]; exact Q194 x
theorem cb_eq : ∀ {x y : Bs}, Lib.compareBytes x y = 0 → x = y
 | [], [], _ => rfl
 | [], _ :: _, h => by simp [Lib.compareBytes] at h
 | _ :: _, [], h => by simp [Lib.compareBytes] at h
 | a :: x, b :: y, h => by
  unfold Lib.compareBytes at h
  split at h
  ·simp at h
  ·split at h
   ·simp at h
   ·rename_i h1 h2
    rw [cb_eq h, UInt8.le_antisymm (UInt8.not_lt.1 h2) (UInt8.not_lt.1 h1)]
theorem cb_neg : ∀ {x y : Bs}, Lib.compareBytes y x = - Lib.compareBytes x y
 | [], [] => rfl
 | [], _ :: _ => rfl
 | _ :: _, [] => rfl
 | a :: x, b :: y => by
  unfold Lib.compareBytes
  by_cases h1 : a < b
  ·rw [if_neg (UInt8.lt_asymm h1), if_pos h1, if_pos h1]; rfl
  ·by_cases h2 : b < a
   ·rw [if_pos h2, if_neg h1, if_pos h2]
   ·rw [if_neg h1, if_neg h2, if_neg h2, if_neg h1]; exact cb_neg
theorem Q169 : ∀ {x y z : Bs}, Lib.compareBytes x y < 0 → Lib.compareBytes y z < 0 → Lib.compareBytes x z < 0
 | [], [], _, h, _ => by simp [Lib.compareBytes] at h
 | [], _ :: _, [], _, h => by simp [Lib.compareBytes] at h
 | [], _ :: _, _ :: _, _, _ => by simp [Lib.compareBytes]
 | _ :: _, [], _, h, _ => by simp [Lib.compareBytes] at h
 | _ :: _, _ :: _, [], _, h => by simp [Lib.compareBytes] at h
 | a :: x, b :: y, c :: z, h1, h2 => by
  unfold Lib.compareBytes at h1 h2 ⊢
  by_cases hab : a < b
  ·by_cases hbc : b < c
   ·rw [if_pos (UInt8.lt_trans hab hbc)]; decide
   ·rw [if_neg hbc] at h2
    by_cases hcb : c < b
    ·rw [if_pos hcb] at h2; simp at h2
    ·have : b = c := UInt8.le_antisymm (UInt8.not_lt.1 hcb) (UInt8.not_lt.1 hbc)
     subst this
     rw [if_pos hab]; decide
  ·rw [if_neg hab] at h1
   by_cases hba : b < a
   ·rw [if_pos hba] at h1; simp at h1
   ·have : a = b := UInt8.le_antisymm (UInt8.not_lt.1 hba) (UInt8.not_lt.1 hab)
    subst this
    rw [if_neg hba] at h1
    by_cases hbc : a < c
    ·rw [if_pos hbc]; decide
    ·rw [if_neg hbc] at h2 ⊢
     by_cases hcb : c < a
     ·rw [if_pos hcb] at h2; simp at h2
     ·rw [if_neg hcb] at h2 ⊢
      exact Q169 h1 h2
theorem Q256 (x y : Q1) : Q45.cmp x y = some (Lib.compareBytes x.Name y.Name) := rfl
theorem Q149 (x y : Q1) : ltOf (gcf Q45.cmp) x y = true ↔ Lib.compareBytes x.Name y.Name < 0 := by
 unfold ltOf gcf
 rw [Q256]
 simp
theorem prop_ltOf' (x y : Q1) : ltOf (gcf Q45.cmp) x y = false ↔ 0 ≤ Lib.compareBytes x.Name y.Name := by
 have := Q149 x y
 rw [← Bool.not_eq_true, this]; omega
theorem prop_swo : CmpSwo Q45.cmp := by
 refine ⟨fun x y => by rw [Q256]; rfl, fun x => ?_, fun x y z h1 h2 => ?_, fun x y z h1 h2 => ?_⟩
 ·rw [prop_ltOf', Q194]; decide
 ·rw [Q149] at *; exact Q169 h1 h2
 ·rw [prop_ltOf'] at *
  rw [cb_neg] at h1 h2 ⊢
  have h1' : Lib.compareBytes y.Name x.Name ≤ 0 := by omega
  have h2' : Lib.compareBytes z.Name y.Name ≤ 0 := by omega
  by_cases e1 : Lib.compareBytes y.Name x.Name = 0
  ·rw [← cb_eq e1]; omega
  ·by_cases e2 : Lib.compareBytes z.Name y.Name = 0
   ·rw [cb_eq e2]; omega
   ·have := Q169 (show Lib.compareBytes z.Name y.Name < 0 by omega) (show Lib.compareBytes y.Name x.Name < 0 by omega)
    omega
end Go.Bw
namespace Go.Bw
open Go Go.RowKit

theorem Q25 {σ ρ : Type} {body : σ → Option (σ ⊕ ρ)} (I : σ → Prop) (Q : ρ → Prop) (μ : σ → Nat) (h : ∀ s, I s → (∃ r, body s = some (.inr r) ∧ Q r) ∨ ∃ s', body s = some (.inl s') ∧ I s' ∧ μ s' < μ s) :
 ∀ s, I s → ∃ r, iter body s = some r ∧ Q r := by
 have key : ∀ n s, μ s < n → I s → ∃ r, iter body s = some r ∧ Q r := by
  intro n
  induction n with
  | zero => intro s hn; omega
  | succ n ih =>
   intro s hn hI
   rw [Q67]
   rcases h s hI with ⟨r, hr, hq⟩ | ⟨s', hs, hI', hlt⟩
   ·exact ⟨r, by rw [hr]; rfl, hq⟩
   ·obtain ⟨r, hr, hq⟩ := ih s' (by omega) hI'
    exact ⟨r, by rw [hs]; exact hr, hq⟩
 exact fun s hI => key _ s (Nat.lt_succ_self _) hI
theorem wrap64 {x : Int} (h0 : -9223372036854775808 ≤ x) (h1 : x ≤ 9223372036854775807) : IntKind.i64.wrap x = x := by
 simp [IntKind.wrap, IntKind.bits, IntKind.signed]
 omega
section
variable {α : Type} [Inhabited α]
theorem Q93 (xs : List α) (i : Int) (x : α) : (st xs i x).length = xs.length := by simp [st]
theorem Q90 {xs : List α} {i j : Int} {x : α} (hi : 0 ≤ i) (hi' : i < (xs.length : Int)) (hj : 0 ≤ j) : gt (st xs i x) j = if j = i then x else gt xs j := by
 unfold gt st
 rw [List.getD_eq_getElem?_getD, List.getD_eq_getElem?_getD, List.getElem?_set]
 by_cases h : j = i
 ·subst h
  have : j.toNat < xs.length := by omega
  simp [this]
 ·have : ¬ i.toNat = j.toNat := by omega
  simp [this, h]
theorem Q32 {xs : List α} {i : Int} (h0 : 0 ≤ i) (h1 : i < (xs.length : Int)) : gt xs i ∈ xs := List.mem_of_getElem? (Q40 h0 h1)
theorem Q88 {xs : List α} {i : Nat} {x : α} (h : xs[i]? = some x) : gt xs (i : Int) = x := by
 unfold gt
 simp [List.getD_eq_getElem?_getD, h]
end
end Go.Bw
namespace Go.Bw
open Go Go.RowKit Go.Proofs Go.Sort

def Small (e : Q0) : Prop := (0 ≤ e.From ∧ e.From ≤ 1000) ∧ (0 ≤ e.Action ∧ e.Action ≤ 1000) ∧ (0 ≤ e.To ∧ e.To ≤ 1000)
def smallB (e : Q0) : Bool := decide (0 ≤ e.From) && decide (e.From ≤ 1000) && decide (0 ≤ e.Action) && decide (e.Action ≤ 1000) && decide (0 ≤ e.To) && decide (e.To ≤ 1000)
theorem Q341 {e : Q0} : smallB e = true ↔ Small e := by
 unfold smallB Small
 simp [and_assoc]
def diffCmp (x y : Q0) : Int := if x.From - y.From = 0 then if x.Action - y.Action = 0 then x.To - y.To else x.Action - y.Action else x.From - y.From
theorem Q219 {x y : Q0} (hx : Small x) (hy : Small y) : Q36.cmp x y = some (diffCmp x y) := by
 unfold Q36.cmp Q132.f
 unfold Small at hx hy
 rw [Go.Bw.wrap64 (x := x.From - y.From) (by omega) (by omega), Go.Bw.wrap64 (x := x.Action - y.Action) (by omega) (by omega), Go.Bw.wrap64 (x := x.To - y.To) (by omega) (by omega), or_run]
 rfl
theorem diff_lt {x y : Q0} : diffCmp x y < 0 ↔ edgeLt x y := by
 unfold diffCmp edgeLt
 split
 ·split <;> omega
 ·omega
theorem diff_on {xs : List Q0} (h : ∀ x ∈ xs, Small x) : CmpOn Q36.cmp xs := by
 refine ⟨Small, ⟨⟨0, 0, 0⟩, by unfold Small; simp⟩, h, ?_⟩
 have l1 : ∀ x y : {x // Small x}, ltOf (gcf fun x y : {x // Small x} => Q36.cmp x.1 y.1) x y = true ↔ edgeLt x.1 y.1 := fun x y => by
  have hd := Q219 x.2 y.2
  unfold ltOf gcf
  simp [hd, diff_lt]
 have l2 : ∀ x y : {x // Small x}, ltOf (gcf fun x y : {x // Small x} => Q36.cmp x.1 y.1) x y = false ↔ ¬ edgeLt x.1 y.1 := fun x y => by rw [← l1]; simp
 refine ⟨⟨fun x y => by have hd := Q219 x.2 y.2; simp [hd], fun x => ?_, fun x y z h1 h2 => ?_, fun x y z h1 h2 => ?_⟩, fun x y h1 h2 => ?_⟩
 ·rw [l2]; unfold edgeLt; omega
 ·rw [l1] at *; unfold edgeLt at *; omega
 ·rw [l2] at *; unfold edgeLt at *; omega
 ·rw [l2] at *
  obtain ⟨⟨x0, x1, x2⟩, hx⟩ := x
  obtain ⟨⟨y0, y1, y2⟩, hy⟩ := y
  unfold edgeLt at *
  simp at *
  omega
section
variable {α : Type}
def pwC (c : α → α → Option Int) : List α → Bool
 | [] => true
 | x :: xs => xs.all (fun y => match c y x with | some v => decide (0 ≤ v) | none => false) && pwC c xs
theorem pwC_mem {c cc : α → α → Option Int} (h : ∀ x y, Ap (cc x y) (c x y)) : ∀ {a : List α}, pwC cc a = true → a.Pairwise fun x y => (!(ltOf (gcf c)) y x) = true
 | [], _ => List.Pairwise.nil
 | x :: xs, e => by
  unfold pwC at e
  rw [Bool.and_eq_true, List.all_eq_true] at e
  refine List.Pairwise.cons (fun y hy => ?_) (pwC_mem h e.2)
  have := e.1 y hy
  cases hc : cc y x with
  | none => rw [hc] at this; cases this
  | some v =>
   rw [hc] at this
   have hv := h y x v hc
   unfold ltOf gcf
   rw [hv]
   simpa using this
def asisC (c : α → α → Option Int) (a : List α) : Option (List α) := if pwC c a = true then some a else none
theorem Q246 {c cc : α → α → Option Int} (h : ∀ x y, Ap (cc x y) (c x y)) {a r : List α} (e : asisC cc a = some r) : r = a ∧ byCmp c a = a := by
 unfold asisC at e
 split at e
 ·rename_i hp
  exact ⟨(Option.some.inj e).symm, List.mergeSort_of_pairwise (pwC_mem h hp)⟩
 ·cases e
end
def fewC {α : Type} (o : Option (List α)) : Option (List α) := o.bind fun a => if a.length ≤ 1000 then some a else none
theorem few_mem {α : Type} {o : Option (List α)} {r : List α} (h : fewC o = some r) : o = some r ∧ r.length ≤ 1000 := by
 unfold fewC at h
 cases o with
 | none => cases h
 | some a =>
  simp only [Option.bind_some] at h
  split at h
  ·rename_i hl
   obtain rfl := Option.some.inj h
   exact ⟨rfl, hl⟩
  ·cases h
end Go.Bw
namespace Go.Bw
open Go Go.RowKit

def Wd (v : BitVec 64) : Int := (v.toNat : Int)
theorem Wd.lt (v : BitVec 64) : 0 ≤ Wd v ∧ Wd v < 18446744073709551616 := by
 unfold Wd
 have := v.isLt
 omega
theorem wrapu {x : Int} (h0 : 0 ≤ x) (h1 : x < 18446744073709551616) : IntKind.u64.wrap x = x := by
 simp [IntKind.wrap, IntKind.bits, IntKind.signed]
 omega
theorem Q146 (v : BitVec 64) : BitVec.ofInt 64 (Wd v) = v := by
 unfold Wd
 apply BitVec.eq_of_toNat_eq
 simp
theorem Wd.inj {u v : BitVec 64} (h : Wd u = Wd v) : u = v := by rw [← Q146 u, h, Q146]
theorem Q281 (v : BitVec 64) : IntKind.u64.wrap (v.toNat : Int) = Wd v := wrapu (Wd.lt v).1 (Wd.lt v).2
theorem bor_wd (u v : BitVec 64) : bor .u64 (Wd u) (Wd v) = Wd (u ||| v) := by
 show IntKind.u64.wrap ((BitVec.ofInt 64 (Wd u) ||| BitVec.ofInt 64 (Wd v)).toNat : Int) = _
 rw [Q146, Q146, Q281]
theorem Q153 (u v : BitVec 64) : band .u64 (Wd u) (Wd v) = Wd (u &&& v) := by
 show IntKind.u64.wrap ((BitVec.ofInt 64 (Wd u) &&& BitVec.ofInt 64 (Wd v)).toNat : Int) = _
 rw [Q146, Q146, Q281]
theorem shl_one {s : Int} (h0 : 0 ≤ s) (h1 : s < 64) : Bw.shl .u64 1 s = Wd (BitVec.twoPow 64 s.toNat) := by
 have hs : min s.toNat IntKind.u64.bits = s.toNat := Nat.min_eq_left (show s.toNat ≤ 64 by omega)
 have hp : 2 ^ s.toNat < 2 ^ 64 := Nat.pow_lt_pow_right (by decide) (by omega)
 unfold Bw.shl Wd
 have e : (2 : Int) ^ s.toNat = ((2 ^ s.toNat : Nat) : Int) := by rw [Int.natCast_pow]; rfl
 rw [hs, Int.one_mul, BitVec.toNat_twoPow, Nat.mod_eq_of_lt hp, e]
 have h2 : (2 : Nat) ^ 64 = 18446744073709551616 := by rfl
 rw [h2] at hp
 generalize (2 : Nat) ^ s.toNat = q at hp
 exact wrapu (by omega) (by omega)
theorem shr6 {n : Int} (h0 : 0 ≤ n) : Bw.shr .i64 n 6 = n / 64 := by
 show n.fdiv (2 ^ 6) = n / 64
 rw [Int.fdiv_eq_ediv_of_nonneg _ (by decide)]
 rfl
theorem band63 {n : Int} (h0 : 0 ≤ n) (h1 : n ≤ 9223372036854775807) : band .i64 n 63 = n % 64 := by
 show IntKind.i64.wrap ((BitVec.ofInt 64 n &&& BitVec.ofInt 64 63).toNat : Int) = _
 have e1 : (BitVec.ofInt 64 n).toNat = n.toNat := by rw [BitVec.toNat_ofInt]; omega
 have e2 : (BitVec.ofInt 64 63).toNat = 2 ^ 6 - 1 := by rfl
 rw [BitVec.toNat_and, e1, e2, Nat.and_two_pow_sub_one_eq_mod, wrap64 (by omega) (by omega)]
 omega
structure W4 where
 a : BitVec 64
 b : BitVec 64
 c : BitVec 64
 d : BitVec 64
def W4.sel (u : W4) (k : Int) : BitVec 64 := if k = 0 then u.a else if k = 1 then u.b else if k = 2 then u.c else u.d
def W4.has (u : W4) (n : Int) : Bool := (u.sel (n / 64)).getLsbD (n % 64).toNat
def W4.Rep (u : W4) (S : Int → Prop) : Prop := ∀ n, 0 ≤ n → n < 256 → (u.has n = true ↔ S n)
def W4.z : W4 := ⟨0#64, 0#64, 0#64, 0#64⟩
theorem W4.z_rep : W4.z.Rep (fun _ => False) := fun n h0 h1 => by
 unfold W4.has W4.sel W4.z
 dsimp only
 split
 ·simp
 ·split
  ·simp
  ·split <;> simp
theorem W4.ext4 {u v : W4} (h : ∀ n, 0 ≤ n → n < 256 → u.has n = v.has n) : u = v := by
 have key : ∀ k : Int, 0 ≤ k → k < 4 → u.sel k = v.sel k := fun k h0 h1 => by
  apply BitVec.eq_of_getLsbD_eq
  intro i hi
  have := h (64 * k + i) (by omega) (by omega)
  unfold W4.has at this
  rwa [show (64 * k + (i : Int)) / 64 = k from by omega, show ((64 * k + (i : Int)) % 64).toNat = i from by omega] at this
 have k0 := key 0 (by decide) (by decide)
 have k1 := key 1 (by decide) (by decide)
 have k2 := key 2 (by decide) (by decide)
 have k3 := key 3 (by decide) (by decide)
 cases u
 cases v
 simp [W4.sel] at k0 k1 k2 k3
 rw [k0, k1, k2, k3]
theorem W4.Rep.uniq {u v : W4} {S T : Int → Prop} (hu : u.Rep S) (hv : v.Rep T) (h : ∀ n, 0 ≤ n → n < 256 → (S n ↔ T n)) : u = v := W4.ext4 fun n h0 h1 => by
 rw [Bool.eq_iff_iff, hu n h0 h1, hv n h0 h1]
 exact h n h0 h1
def W4.put (u : W4) (n : Int) : W4 :=
 if n / 64 = 0 then { u with a := u.a ||| BitVec.twoPow 64 (n % 64).toNat } else if n / 64 = 1 then { u with b := u.b ||| BitVec.twoPow 64 (n % 64).toNat }
 else if n / 64 = 2 then { u with c := u.c ||| BitVec.twoPow 64 (n % 64).toNat } else { u with d := u.d ||| BitVec.twoPow 64 (n % 64).toNat }
theorem W4.put_rep {u : W4} {S : Int → Prop} (h : u.Rep S) {n : Int} (h0 : 0 ≤ n) (h1 : n < 256) : (u.put n).Rep (fun m => S m ∨ m = n) := fun m m0 m1 => by
 show _ ↔ S m ∨ m = n
 rw [← h m m0 m1]
 have key : ∀ (w : BitVec 64), (w ||| BitVec.twoPow 64 (n % 64).toNat).getLsbD (m % 64).toNat = (w.getLsbD (m % 64).toNat || decide (m % 64 = n % 64)) := fun w => by
  rw [BitVec.getLsbD_or, BitVec.getLsbD_twoPow]
  congr 1
  have : (m % 64).toNat < 64 := by omega
  rw [Bool.eq_iff_iff]
  simp [this]
  omega
 unfold W4.put W4.has W4.sel
 have hn : n / 64 = 0 ∨ n / 64 = 1 ∨ n / 64 = 2 ∨ n / 64 = 3 := by omega
 have hm : m / 64 = 0 ∨ m / 64 = 1 ∨ m / 64 = 2 ∨ m / 64 = 3 := by omega
 by_cases e : m / 64 = n / 64
 ·have hmn : (m = n) ↔ m % 64 = n % 64 := by omega
  rw [e, hmn]
  rcases hn with hn | hn | hn | hn <;> simp [hn, key]
 ·have hmn : ¬ m = n := fun h => e (by rw [h])
  rw [or_iff_left hmn]
  rcases hn with hn | hn | hn | hn <;> rcases hm with hm | hm | hm | hm <;> first
   | exact absurd (hm.trans hn.symm) e
   | simp [hn, hm]
def W4.t (u : W4) : Int × Int × Int × Int := (Wd u.a, Wd u.b, Wd u.c, Wd u.d)
end Go.Bw
namespace Go.Bw
open Go Go.RowKit

theorem low_ex {v : BitVec 64} (h : v ≠ 0#64) : ∃ k : Nat, k < 64 ∧ v.getLsbD k = true ∧ ∀ i, i < k → v.getLsbD i = false := by
 have h1 : ∃ k, v.getLsbD k = true := Classical.byContradiction fun hn => h (BitVec.eq_of_getLsbD_eq fun i _ => by
  cases hv : v.getLsbD i with
  | false => simp
  | true => exact absurd ⟨i, hv⟩ hn)
 obtain ⟨k, hk⟩ := h1
 induction k using Nat.strongRecOn with
 | _ k ih =>
  by_cases hl : ∃ i, i < k ∧ v.getLsbD i = true
  ·obtain ⟨i, hi, hv⟩ := hl; exact ih i hi hv
  ·refine ⟨k, BitVec.lt_of_getLsbD hk, hk, fun i hi => ?_⟩
   cases hv : v.getLsbD i with
   | false => rfl
   | true => exact absurd ⟨i, hi, hv⟩ hl
theorem low_nat {v : BitVec 64} {k : Nat} (hk : v.getLsbD k = true) (hb : ∀ i, i < k → v.getLsbD i = false) : v.toNat = 2 ^ (k + 1) * (v.toNat / 2 ^ (k + 1)) + 2 ^ k := by
 have e : v.toNat % 2 ^ (k + 1) = 2 ^ k := by
  apply Nat.eq_of_testBit_eq
  intro i
  rw [Nat.testBit_mod_two_pow, Nat.testBit_two_pow]
  by_cases h1 : i < k
  ·have := hb i h1
   rw [BitVec.getLsbD] at this
   rw [this]; simp; omega
  ·by_cases h2 : i = k
   ·subst h2
    rw [BitVec.getLsbD] at hk
    rw [hk]; simp
   ·rw [decide_eq_false (by omega), decide_eq_false (by omega)]; rfl
 have := Nat.div_add_mod v.toNat (2 ^ (k + 1))
 omega
theorem Q225 {v : BitVec 64} {k : Nat} (hk : v.getLsbD k = true) (hb : ∀ i, i < k → v.getLsbD i = false) (i : Nat) :
 (v - 1#64).getLsbD i = if i < k then true else if i = k then false else v.getLsbD i := by
 have hn := low_nat hk hb
 have hk64 := BitVec.lt_of_getLsbD hk
 have hp : 0 < 2 ^ k := Nat.two_pow_pos k
 have hv := v.isLt
 have e1 : (v - 1#64).toNat = 2 ^ (k + 1) * (v.toNat / 2 ^ (k + 1)) + (2 ^ k - 1) := by
  rw [BitVec.toNat_sub]
  have : (1#64).toNat = 1 := rfl
  rw [this]
  generalize 2 ^ (k + 1) * (v.toNat / 2 ^ (k + 1)) = q at hn
  omega
 have hlt : 2 ^ k - 1 < 2 ^ (k + 1) := by rw [Nat.pow_succ]; omega
 have hlt2 : 2 ^ k < 2 ^ (k + 1) := by rw [Nat.pow_succ]; omega
 have ev : v.getLsbD i = if i < k + 1 then (2 ^ k).testBit i else (v.toNat / 2 ^ (k + 1)).testBit (i - (k + 1)) := by
  have : v.getLsbD i = v.toNat.testBit i := rfl
  rw [this]
  have h3 := Nat.testBit_two_pow_mul_add (v.toNat / 2 ^ (k + 1)) hlt2 i
  rw [← hn] at h3
  exact h3
 have ep : (v - 1#64).getLsbD i = if i < k + 1 then (2 ^ k - 1).testBit i else (v.toNat / 2 ^ (k + 1)).testBit (i - (k + 1)) := by
  have : (v - 1#64).getLsbD i = (v - 1#64).toNat.testBit i := rfl
  rw [this, e1]
  exact Nat.testBit_two_pow_mul_add _ hlt i
 rw [ep]
 by_cases h1 : i < k
 ·rw [if_pos (show i < k + 1 by omega), if_pos h1, Nat.testBit_two_pow_sub_one]; simp [h1]
 ·by_cases h2 : i = k
  ·subst h2
   rw [if_pos (show i < i + 1 by omega), if_neg h1, if_pos rfl, Nat.testBit_two_pow_sub_one]; simp
  ·rw [if_neg (show ¬ i < k + 1 by omega), if_neg h1, if_neg h2, ev, if_neg (show ¬ i < k + 1 by omega)]
theorem Q189 {v : BitVec 64} {k : Nat} (hk : v.getLsbD k = true) (hb : ∀ i, i < k → v.getLsbD i = false) (i : Nat) : (v &&& (v - 1#64)).getLsbD i = (v.getLsbD i && !decide (i = k)) := by
 rw [BitVec.getLsbD_and, Q225 hk hb]
 by_cases h1 : i < k
 ·rw [hb i h1]; rfl
 ·by_cases h2 : i = k
  ·subst h2; simp
  ·simp [h1, h2]
theorem low_only {v : BitVec 64} {k : Nat} (hk : v.getLsbD k = true) (hb : ∀ i, i < k → v.getLsbD i = false) : v &&& -v = BitVec.twoPow 64 k := by
 have e : -v = ~~~(v - 1#64) := by
  apply BitVec.eq_of_toNat_eq
  have hv := v.isLt
  have hn := low_nat hk hb
  have hp : 0 < 2 ^ k := Nat.two_pow_pos k
  rw [BitVec.toNat_not, BitVec.toNat_neg, BitVec.toNat_sub]
  have : (1#64).toNat = 1 := rfl
  rw [this]
  generalize 2 ^ (k + 1) * (v.toNat / 2 ^ (k + 1)) = q at hn
  omega
 apply BitVec.eq_of_getLsbD_eq
 intro i hi
 rw [e, BitVec.getLsbD_and, BitVec.getLsbD_not, Q225 hk hb, BitVec.getLsbD_twoPow]
 by_cases h1 : i < k
 ·rw [hb i h1]; simp; omega
 ·by_cases h2 : i = k
  ·subst h2; simp [hk, hi]
  ·rw [if_neg h1, if_neg h2]
   have : decide (k = i) = false := decide_eq_false (by omega)
   cases v.getLsbD i <;> simp [this, hi]
end Go.Bw
namespace Go.Bw
open Go Go.RowKit

def Canon (l : List Int) : Prop := ∀ i : Int, 0 ≤ i → i < (l.length : Int) → 0 ≤ gt l i ∧ ∀ v : Int, 0 ≤ v → v < gt l i → ∃ j : Int, 0 ≤ j ∧ j < i ∧ gt l j = v
theorem ext_gt {α : Type} [Inhabited α] {l l' : List α} (hn : l.length = l'.length) (h : ∀ k : Nat, k < l.length → gt l k = gt l' k) : l = l' := by
 refine List.ext_getElem hn fun k h1 h2 => ?_
 have := h k h1
 rwa [Q88 (List.getElem?_eq_getElem h1), Q88 (List.getElem?_eq_getElem h2)] at this
theorem Canon.uniq {l l' : List Int} (h : Canon l) (h' : Canon l') (hn : l.length = l'.length)
 (hk : ∀ i j : Int, 0 ≤ i → i < (l.length : Int) → 0 ≤ j → j < (l.length : Int) → (gt l i = gt l j ↔ gt l' i = gt l' j)) : l = l' := by
 refine ext_gt hn fun k => ?_
 induction k using Nat.strongRecOn with
 | _ k ih =>
  intro hkl
  obtain ⟨a0, a1⟩ := h k (by omega) (by omega)
  obtain ⟨b0, b1⟩ := h' k (by omega) (by omega)
  rcases Int.lt_trichotomy (gt l k) (gt l' k) with hlt | he | hlt
  ·obtain ⟨j, j0, j1, j2⟩ := b1 _ a0 hlt
   have e := ih j.toNat (by omega) (by omega)
   rw [show ((j.toNat : Nat) : Int) = j from by omega, j2] at e
   have := (hk j k j0 (by omega) (by omega) (by omega)).1 e
   omega
  ·exact he
  ·obtain ⟨j, j0, j1, j2⟩ := a1 _ b0 hlt
   have e := ih j.toNat (by omega) (by omega)
   rw [show ((j.toNat : Nat) : Int) = j from by omega, j2] at e
   have := (hk j k j0 (by omega) (by omega) (by omega)).2 (by omega)
   omega

section
variable (H : Nat → Int → Prop) (E : Nat → Int → Int → Prop)
structure Ks (H : Nat → Int → Prop) (E : Nat → Int → Int → Prop) (R : Int → Int → Prop) : Prop where
 hd : ∀ s t, R s t → ∀ i, H i s ↔ H i t
 fw : ∀ s t, R s t → ∀ a s', E a s s' → ∃ t', E a t t' ∧ R s' t'
 bw : ∀ s t, R s t → ∀ a t', E a t t' → ∃ s', E a s s' ∧ R s' t'
def Alike (s t : Int) : Prop := ∃ R, Ks H E R ∧ R s t
variable {H E}
theorem Alike.refl (s : Int) : Alike H E s s := ⟨Eq, ⟨by rintro s _ rfl i; exact Iff.rfl, by rintro s _ rfl a s' h; exact ⟨s', h, rfl⟩, by rintro s _ rfl a s' h; exact ⟨s', h, rfl⟩⟩, rfl⟩
theorem Alike.symm {s t : Int} : Alike H E s t → Alike H E t s := fun ⟨R, k, h⟩ => ⟨fun a b => R b a, ⟨fun s t q i => (k.hd t s q i).symm, fun s t q => k.bw t s q, fun s t q => k.fw t s q⟩, h⟩
theorem Alike.trans {s t u : Int} : Alike H E s t → Alike H E t u → Alike H E s u := fun ⟨R, k, h⟩ ⟨R', k', h'⟩ =>
 ⟨fun a c => ∃ b, R a b ∧ R' b c, ⟨fun s t ⟨b, q, q'⟩ i => (k.hd s b q i).trans (k'.hd b t q' i), fun s t ⟨b, q, q'⟩ a s' e => by
  obtain ⟨b', e1, q1⟩ := k.fw s b q a s' e
  obtain ⟨t', e2, q2⟩ := k'.fw b t q' a b' e1
  exact ⟨t', e2, b', q1, q2⟩, fun s t ⟨b, q, q'⟩ a t' e => by
  obtain ⟨b', e1, q1⟩ := k'.bw b t q' a t' e
  obtain ⟨s', e2, q2⟩ := k.bw s b q a b' e1
  exact ⟨s', e2, b', q2, q1⟩⟩, t, h, h'⟩
theorem Alike.ks : Ks H E (Alike H E) :=
 ⟨fun s t ⟨R, k, h⟩ => k.hd s t h, fun s t ⟨R, k, h⟩ a s' e => let ⟨t', e1, q⟩ := k.fw s t h a s' e; ⟨t', e1, R, k, q⟩, fun s t ⟨R, k, h⟩ a t' e => let ⟨s', e1, q⟩ := k.bw s t h a t' e; ⟨s', e1, R, k, q⟩⟩
structure Cls (n : Int) (H : Nat → Int → Prop) (E : Nat → Int → Int → Prop) (l : List Int) : Prop where
 len : (l.length : Int) = n
 canon : Canon l
 iff : ∀ s t : Int, 0 ≤ s → s < n → 0 ≤ t → t < n → (gt l s = gt l t ↔ Alike H E s t)
theorem Cls.uniq {n : Int} {l l' : List Int} (h : Cls n H E l) (h' : Cls n H E l') : l = l' :=
 h.canon.uniq h'.canon (by have := h.len; have := h'.len; omega) fun i j i0 i1 j0 j1 => by
  rw [h.len] at i1 j1
  rw [h.iff i j i0 i1 j0 j1, h'.iff i j i0 i1 j0 j1]
def Within (n : Int) (E : Nat → Int → Int → Prop) : Prop := ∀ a s t, E a s t → 0 ≤ s ∧ s < n ∧ 0 ≤ t ∧ t < n
theorem cls_of {n : Int} {l : List Int} (hw : Within n E) (hlen : (l.length : Int) = n) (hc : Canon l)
 (h1 : ∀ s t : Int, 0 ≤ s → s < n → 0 ≤ t → t < n → Alike H E s t → gt l s = gt l t)
 (h2 : ∀ s t : Int, 0 ≤ s → s < n → 0 ≤ t → t < n → gt l s = gt l t → (∀ i, H i s ↔ H i t) ∧ ∀ a s', E a s s' → ∃ t', E a t t' ∧ gt l s' = gt l t') : Cls n H E l :=
 ⟨hlen, hc, fun s t s0 s1 t0 t1 => ⟨fun h => ⟨fun a b => 0 ≤ a ∧ a < n ∧ 0 ≤ b ∧ b < n ∧ gt l a = gt l b, ⟨fun a b ⟨a0, a1, b0, b1, e⟩ => (h2 a b a0 a1 b0 b1 e).1, fun a b ⟨a0, a1, b0, b1, e⟩ c a' q => by
  obtain ⟨b', q1, q2⟩ := (h2 a b a0 a1 b0 b1 e).2 c a' q
  have w := hw _ _ _ q
  have w' := hw _ _ _ q1
  exact ⟨b', q1, w.2.2.1, w.2.2.2, w'.2.2.1, w'.2.2.2, q2⟩, fun a b ⟨a0, a1, b0, b1, e⟩ c b' q => by
  obtain ⟨a', q1, q2⟩ := (h2 b a b0 b1 a0 a1 e.symm).2 c b' q
  have w := hw _ _ _ q
  have w' := hw _ _ _ q1
  exact ⟨a', q1, w'.2.2.1, w'.2.2.2, w.2.2.1, w.2.2.2, q2.symm⟩⟩, s0, s1, t0, t1, h⟩, h1 s t s0 s1 t0 t1⟩⟩
end
def pairs (n : Nat) (p : Nat → Nat → Bool) : Nat := ((List.range n).map fun i => (List.range n).countP (p i)).sum
theorem Q199 {α : Type} {p q : α → Bool} : ∀ {l : List α}, (∀ x ∈ l, p x = true → q x = true) → l.countP p ≤ l.countP q
 | [], _ => Nat.le_refl _
 | a :: l, h => by
  have ih := Q199 (p := p) (q := q) (l := l) fun x hx => h x (.tail _ hx)
  have ha := h a (.head _)
  rw [List.countP_cons, List.countP_cons]
  by_cases hp : p a = true
  ·rw [if_pos hp, if_pos (ha hp)]; omega
  ·rw [if_neg hp]; omega
theorem Q231 {α : Type} {p q : α → Bool} : ∀ {l : List α}, (∀ x ∈ l, p x = true → q x = true) → ∀ {y : α}, y ∈ l → p y = false → q y = true → l.countP p < l.countP q
 | [], _, _, hy, _, _ => by cases hy
 | a :: l, h, y, hy, h1, h2 => by
  rw [List.countP_cons, List.countP_cons]
  rcases List.mem_cons.1 hy with rfl | hy
  ·have ih := Q199 (p := p) (q := q) (l := l) fun x hx => h x (.tail _ hx)
   rw [if_neg (by simp [h1]), if_pos h2]; omega
  ·have ih := Q231 (p := p) (q := q) (l := l) (fun x hx => h x (.tail _ hx)) hy h1 h2
   have ha := h a (.head _)
   by_cases hp : p a = true
   ·rw [if_pos hp, if_pos (ha hp)]; omega
   ·rw [if_neg hp]; omega
theorem sum_le {α : Type} {f g : α → Nat} : ∀ {l : List α}, (∀ x ∈ l, f x ≤ g x) → (l.map f).sum ≤ (l.map g).sum
 | [], _ => Nat.le_refl _
 | a :: l, h => by
  have ih := sum_le (f := f) (g := g) (l := l) fun x hx => h x (.tail _ hx)
  have := h a (.head _)
  simp only [List.map_cons, List.sum_cons]; omega
theorem sum_lt {α : Type} {f g : α → Nat} : ∀ {l : List α}, (∀ x ∈ l, f x ≤ g x) → ∀ {y : α}, y ∈ l → f y < g y → (l.map f).sum < (l.map g).sum
 | [], _, _, hy, _ => by cases hy
 | a :: l, h, y, hy, h1 => by
  simp only [List.map_cons, List.sum_cons]
  have ha := h a (.head _)
  rcases List.mem_cons.1 hy with rfl | hy
  ·have ih := sum_le (f := f) (g := g) (l := l) fun x hx => h x (.tail _ hx)
   omega
  ·have ih := sum_lt (f := f) (g := g) (l := l) (fun x hx => h x (.tail _ hx)) hy h1
   omega
theorem Q271 {n : Nat} {p q : Nat → Nat → Bool} (h : ∀ i j, i < n → j < n → p i j = true → q i j = true) {a b : Nat} (ha : a < n) (hb : b < n) (h1 : p a b = false) (h2 : q a b = true) : pairs n p < pairs n q :=
 sum_lt (fun i hi => Q199 fun j hj => h i j (by simpa using hi) (by simpa using hj)) (y := a) (by simpa using ha)
  (Q231 (fun j hj => h a j ha (by simpa using hj)) (y := b) (by simpa using hb) h1 h2)
end Go.Bw
namespace Go.Bw
open Go Go.RowKit

theorem Q181 {u : W4} {n : Int} : Q24.f (Wd u.a) (Wd u.b) (Wd u.c) (Wd u.d) n = some (if 0 ≤ n ∧ n < 256 then u.put n else u).t := by
 unfold Q24.f
 by_cases h0 : 0 ≤ n
 ·rw [if_pos h0, Q10]
  by_cases h1 : n < 256
  ·have hm : IntKind.u64.wrap (band .i64 n 63) = n % 64 := by rw [band63 h0 (by omega), wrapu (by omega) (by omega)]
   rw [if_pos (decide_eq_true h1), shr6 h0, hm, shl_one (by omega) (by omega), if_pos (by omega), if_pos (show 0 ≤ n ∧ n < 256 from ⟨h0, h1⟩)]
   have hn : (0 : Int) ≤ n % 64 := by omega
   simp only [if_pos hn, bor_wd]
   unfold W4.put W4.t
   by_cases k0 : n / 64 = 0
   ·rw [if_pos k0, if_pos k0]
   ·by_cases k1 : n / 64 = 1
    ·rw [if_neg k0, if_neg k0, if_pos k1, if_pos k1]
    ·by_cases k2 : n / 64 = 2
     ·rw [if_neg k0, if_neg k0, if_neg k1, if_neg k1, if_pos k2, if_pos k2]
     ·rw [if_neg k0, if_neg k0, if_neg k1, if_neg k1, if_neg k2, if_neg k2]
  ·rw [if_neg (by simp; omega), if_neg (by omega)]
   rfl
 ·rw [if_neg h0, Q10, if_neg (by simp), if_neg (by omega)]
  rfl
theorem of_run4 {l : List Int} (hl : (l.length : Int) ≤ 9223372036854775807) : ∃ u : W4, Q54.f l = some u.t ∧ u.Rep (· ∈ l) := by
 obtain ⟨r, hr, u, rfl, h⟩ := Q25 (body := fun t_ : Int × Int × Int × Int × Int => Q54.l0b l t_.1 t_.2.1 t_.2.2.1 t_.2.2.2.1 t_.2.2.2.2)
  (fun s => 0 ≤ s.2.2.2.2 ∧ s.2.2.2.2 ≤ (l.length : Int) ∧ ∃ u : W4, (s.1, s.2.1, s.2.2.1, s.2.2.2.1) = u.t ∧ u.Rep (· ∈ l.take s.2.2.2.2.toNat))
  (fun r => ∃ u : W4, r = .inl u.t ∧ u.Rep (· ∈ l)) (fun s => (l.length - s.2.2.2.2).toNat)
  (fun ⟨w0, w1, w2, w3, i⟩ ⟨a0, a1, u, a2, a3⟩ => by
   dsimp only at a0 a1 a2 a3 ⊢
   simp only [W4.t, Prod.mk.injEq] at a2
   obtain ⟨rfl, rfl, rfl, rfl⟩ := a2
   unfold Q54.l0b
   by_cases hi : i < (l.length : Int)
   ·right
    rw [if_pos hi, if_pos ⟨a0, hi⟩, Q181, wrap64 (x := i + 1) (by omega) (by omega)]
    refine ⟨_, rfl, ⟨by dsimp only; omega, by dsimp only; omega, _, rfl, fun n n0 n1 => ?_⟩, by dsimp only; omega⟩
    dsimp only
    rw [show (i + 1).toNat = i.toNat + 1 from by omega, List.take_add_one, Q40 a0 hi, List.mem_append]
    simp only [Option.toList_some, List.mem_singleton]
    by_cases hg : 0 ≤ gt l i ∧ gt l i < 256
    ·rw [if_pos hg]
     exact W4.put_rep a3 hg.1 hg.2 n n0 n1
    ·rw [if_neg hg, a3 n n0 n1]
     exact ⟨.inl, fun h => h.elim id fun h => absurd (h ▸ ⟨n0, n1⟩) hg⟩
   ·left
    rw [if_neg hi]
    refine ⟨_, rfl, u, rfl, ?_⟩
    rwa [List.take_of_length_le (by omega)] at a3) (0, 0, 0, 0, 0) ⟨Int.le_refl _, by dsimp only; omega, W4.z, rfl, fun n n0 n1 => by
     dsimp only
     rw [W4.z_rep n n0 n1]
     simp⟩
 refine ⟨u, ?_, h⟩
 unfold Q54.f
 have hl : Q54.l0 l 0 0 0 0 0 = some (.inl u.t) := hr
 rw [hl, Q10]
end Go.Bw
namespace Go.Bw
open Go Go.RowKit

theorem up_loop {ρ : Type} {body : Int → Option (Int ⊕ ρ)} {N : Int} {Q : ρ → Prop} (hN : N ≤ 9223372036854775807) (k0 : Int) (h0 : -9223372036854775808 ≤ k0) (h : ∀ i, k0 ≤ i → (∃ r, body i = some (.inr r) ∧ Q r) ∨ i < N ∧ body i = some (.inl (IntKind.i64.wrap (i + 1)))) :
 ∃ r, iter body k0 = some r ∧ Q r := by
 refine Q25 (fun i => k0 ≤ i) Q (fun i => (N - i).toNat) (fun i hi => ?_) k0 (Int.le_refl _)
 rcases h i hi with h | ⟨h1, h2⟩
 ·exact .inl h
 ·right
  rw [wrap64 (by omega) (by omega)] at h2
  exact ⟨_, h2, by omega, by omega⟩
theorem in_run (a n : Int) (x : List Bs) (y : List Q0) (z : List Q1) : Q80.f a n x y z = some (decide (0 ≤ a ∧ a < n)) := by
 unfold Q80.f
 by_cases h : 0 ≤ a <;> simp [h, jn]
theorem jn_tot {σ ρ : Type} {x : Option (σ ⊕ ρ)} {f : σ → Option ρ} (hx : ∃ t, x = some t) (hf : ∀ s, ∃ r, f s = some r) : ∃ r, jn x f = some r := by
 obtain ⟨t, rfl⟩ := hx
 cases t with
 | inl s => exact hf s
 | inr r => exact ⟨r, rfl⟩
theorem rune_name (r : Int) : ∃ b, Q94.f r = some b := by
 unfold Q94.f
 repeat' first
  | exact ⟨_, rfl⟩
  | refine jn_tot ?_ fun _ => ?_
  | split
def EdgeIn (n : Int) (m : Nat) (e : Q0) : Prop := 0 ≤ e.From ∧ e.From < n ∧ 0 ≤ e.To ∧ e.To < n ∧ 0 ≤ e.Action ∧ e.Action < (m : Int)
end Go.Bw
namespace Go.Bw
open Go Go.RowKit

theorem shr_wd (v : BitVec 64) {s : Int} (h0 : 0 ≤ s) (h1 : s < 64) : Bw.shr .u64 (Wd v) s = Wd (v >>> s.toNat) := by
 have hs : min s.toNat IntKind.u64.bits = s.toNat := Nat.min_eq_left (show s.toNat ≤ 64 by omega)
 unfold Bw.shr Wd
 rw [hs, Int.fdiv_eq_ediv_of_nonneg _ (Int.pow_nonneg (by decide)), BitVec.toNat_ushiftRight, Nat.shiftRight_eq_div_pow]
 have : (2 : Int) ^ s.toNat = ((2 ^ s.toNat : Nat) : Int) := by rw [Int.natCast_pow]; rfl
 rw [this]
 rfl
theorem Q159 (v : BitVec 64) {s : Int} (h0 : 0 ≤ s) (h1 : s < 64) : band .u64 (Bw.shr .u64 (Wd v) s) 1 = 1 ↔ v.getLsbD s.toNat = true := by
 rw [shr_wd v h0 h1, show (1 : Int) = Wd 1#64 from rfl, Q153]
 constructor
 ·intro h
  have := Wd.inj h
  have h2 := congrArg (fun z => z.getLsbD 0) this
  simpa using h2
 ·intro h
  congr 1
  apply BitVec.eq_of_getLsbD_eq
  intro i hi
  rw [BitVec.getLsbD_and, BitVec.getLsbD_ushiftRight]
  by_cases hi0 : i = 0
  ·subst hi0; simp [h]
  ·have : (1#64).getLsbD i = false := by simp [hi0]
   rw [this]; simp
theorem Q220 {κ ν : Type} [DecidableEq κ] : ∀ (m : List (κ × ν)) (k k' : κ) (v : ν), mget (mset m k v) k' = if k = k' then some v else mget m k'
 | [], k, k', v => by unfold mset mget; split <;> rfl
 | p :: r, k, k', v => by
  unfold mset
  by_cases h : p.1 = k
  ·rw [if_pos h]
   unfold mget
   by_cases h2 : k = k'
   ·simp [h2]
   ·rw [if_neg h2, if_neg h2, if_neg (fun h3 => h2 (h.symm.trans h3))]
  ·rw [if_neg h]
   unfold mget
   by_cases h2 : p.1 = k'
   ·rw [if_pos h2, if_pos h2, if_neg (fun h3 => h (h2.trans h3.symm))]
   ·rw [if_neg h2, if_neg h2, Q220 r k k' v]
def Hit (x : List Bs) (E : List Q0) (k : Q14) (t : Int) : Prop := ∃ e ∈ E, e.From = k.from_ ∧ e.To = t ∧ (gt x e.Action = k.action ∨ k.action = [45])
abbrev set0 : Q5 := ⟨(0 : Int), (0 : Int), (0 : Int), (0 : Int)⟩
def W4.s (u : W4) : Q5 := ⟨Wd u.a, Wd u.b, Wd u.c, Wd u.d⟩
def Nx (x : List Bs) (E : List Q0) (m : List (Q14 × Q5)) : Prop := ∀ k, ∃ u : W4, (mget m k).getD set0 = u.s ∧ u.Rep (Hit x E k)
theorem put_hit {m : List (Q14 × Q5)} {S : Q14 → Int → Prop} (h : ∀ k, ∃ u : W4, (mget m k).getD set0 = u.s ∧ u.Rep (S k)) {k0 : Q14} {t : Int} (h0 : 0 ≤ t) (h1 : t < 256) {u : W4} (hu : (mget m k0).getD set0 = u.s) :
 ∀ k, ∃ u' : W4, (mget (mset m k0 (u.put t).s) k).getD set0 = u'.s ∧ u'.Rep (fun n => S k n ∨ k0 = k ∧ n = t) := fun k => by
 rw [Q220]
 by_cases hk : k0 = k
 ·subst hk
  rw [if_pos rfl]
  obtain ⟨v, hv, hr⟩ := h k0
  rw [hu] at hv
  have : u = v := by
   cases u; cases v
   simp only [W4.s, Q5.mk.injEq] at hv
   rw [Wd.inj hv.1, Wd.inj hv.2.1, Wd.inj hv.2.2.1, Wd.inj hv.2.2.2]
  subst this
  refine ⟨u.put t, rfl, fun n n0 n1 => ?_⟩
  rw [W4.put_rep hr h0 h1 n n0 n1]
  simp
 ·rw [if_neg hk]
  obtain ⟨v, hv, hr⟩ := h k
  refine ⟨v, hv, fun n n0 n1 => ?_⟩
  rw [hr n n0 n1]
  simp [hk]
theorem l2_run (x : List Bs) (y : List Q0) {j : Int} (hj : 0 ≤ j) (hj2 : j < (y.length : Int)) {E : List Q0} {m : List (Q14 × Q5)} (hm : Nx x E m) (ht : 0 ≤ (gt y j).To ∧ (gt y j).To < 256) :
 ∃ m', Q21.l2 x y j m 0 = some (.inl m') ∧ Nx x (E ++ [gt y j]) m' := by
 unfold Q21.l2
 rw [Q67]
 have w1 : IntKind.i64.wrap (0 + 1) = 1 := wrap64 (by decide) (by decide)
 have w2 : IntKind.i64.wrap (1 + 1) = 2 := wrap64 (by decide) (by decide)
 have g0 : gt [gt x (gt y j).Action, ([45] : Bs)] 0 = gt x (gt y j).Action := rfl
 have g1 : gt [gt x (gt y j).Action, ([45] : Bs)] 1 = [45] := rfl
 obtain ⟨u1, e1, r1⟩ := hm ⟨(gt y j).From, gt x (gt y j).Action⟩
 have s1 := put_hit hm ht.1 ht.2 e1
 obtain ⟨u2, e2, r2⟩ := s1 ⟨(gt y j).From, [45]⟩
 have s2 := put_hit s1 ht.1 ht.2 e2
 refine ⟨mset (mset m ⟨(gt y j).From, gt x (gt y j).Action⟩ (u1.put (gt y j).To).s) ⟨(gt y j).From, [45]⟩ (u2.put (gt y j).To).s, ?_, fun k => ?_⟩
 rotate_left
 ·obtain ⟨u3, e3, r3⟩ := s2 k
  refine ⟨u3, e3, fun n n0 n1 => ?_⟩
  rw [r3 n n0 n1]
  unfold Hit
  constructor
  ·rintro ((⟨e, he, q⟩ | ⟨rfl, rfl⟩) | ⟨rfl, rfl⟩)
   ·exact ⟨e, by simp [he], q⟩
   ·exact ⟨gt y j, by simp, rfl, rfl, .inl rfl⟩
   ·exact ⟨gt y j, by simp, rfl, rfl, .inr rfl⟩
  ·rintro ⟨e, he, q1, q2, q3⟩
   rcases List.mem_append.1 he with he | he
   ·exact .inl (.inl ⟨e, he, q1, q2, q3⟩)
   ·simp at he
    subst he
    rcases q3 with q3 | q3
    ·exact .inl (.inr ⟨by rw [q1, q3], q2.symm⟩)
    ·exact .inr ⟨by rw [q1, ← q3], q2.symm⟩
 ·simp only [Q21.l2b]
  rw [if_pos (by simp), if_pos (by simp), g0, e1]
  simp only [W4.s, Q181, if_pos ht, Option.bind_some, nx, w1]
  rw [Q67]
  simp only [Q21.l2b]
  rw [if_pos (by simp), if_pos (by simp), g1]
  have e2' : (mget (mset m ({ from_ := (gt y j).From, action := gt x (gt y j).Action } : Q14) ({ c0 := (u1.put (gt y j).To).t.1, c1 := (u1.put (gt y j).To).t.2.1, c2 := (u1.put (gt y j).To).t.2.2.1, c3 := (u1.put (gt y j).To).t.2.2.2 } : Q5)) { from_ := (gt y j).From, action := [45] }).getD set0 = u2.s := e2
  rw [e2']
  simp only [W4.s, Q181, if_pos ht, Option.bind_some, nx, w2]
  rw [Q67]
  simp only [Q21.l2b]
  rw [if_neg (by simp)]
  rfl
theorem l1_run (n : Int) (x : List Bs) (y : List Q0) (hy : (y.length : Int) ≤ 9223372036854775807) (he : ∀ e ∈ y, EdgeIn n x.length e) (hn : n ≤ 24) :
 ∃ m, Q21.l1 x y [] 0 = some (.inl m) ∧ Nx x y m := by
 obtain ⟨r, hr, m, rfl, hm⟩ := Q25 (body := fun t_ : List (Q14 × Q5) × Int => Q21.l1b x y t_.1 t_.2) (fun s => 0 ≤ s.2 ∧ s.2 ≤ (y.length : Int) ∧ Nx x (y.take s.2.toNat) s.1)
  (fun r => ∃ m, r = .inl m ∧ Nx x y m) (fun s => ((y.length : Int) - s.2).toNat) (fun ⟨m, i⟩ ⟨h0, h1, h2⟩ => by
   dsimp only at h0 h1 h2 ⊢
   unfold Q21.l1b
   by_cases hi : i < (y.length : Int)
   ·right
    have hE := he _ (Q32 h0 hi)
    obtain ⟨m', hm', hx⟩ := l2_run x y h0 hi h2 ⟨hE.2.2.1, by have := hE.2.2.2.1; omega⟩
    rw [if_pos hi, if_pos ⟨h0, hi⟩, if_pos hE.2.2.2.2, hm', Q10, wrap64 (x := i + 1) (by omega) (by omega)]
    refine ⟨_, rfl, ⟨by dsimp only; omega, by dsimp only; omega, ?_⟩, by dsimp only; omega⟩
    dsimp only
    rw [show (i + 1).toNat = i.toNat + 1 from by omega, List.take_add_one, Q40 h0 hi]
    exact hx
   ·left
    rw [if_neg hi]
    refine ⟨_, rfl, m, rfl, ?_⟩
    rwa [List.take_of_length_le (by omega)] at h2) ([], 0) ⟨Int.le_refl _, by dsimp only; omega, fun k => ⟨W4.z, rfl, fun n n0 n1 => by
     rw [W4.z_rep n n0 n1]
     simp [Hit]⟩⟩
 exact ⟨m, hr, hm⟩
end Go.Bw
namespace Go.Bw
open Go Go.RowKit

theorem wrap_neg (v : BitVec 64) : IntKind.u64.wrap (0 - Wd v) = Wd (-v) := by
 unfold Wd
 rw [BitVec.toNat_neg]
 have := v.isLt
 simp [IntKind.wrap, IntKind.bits, IntKind.signed]
 omega
theorem wrap_pred (v : BitVec 64) (h : v ≠ 0#64) : IntKind.u64.wrap (Wd v - 1) = Wd (v - 1#64) := by
 have h1 : Wd v ≠ 0 := fun e => h (Wd.inj (e.trans rfl))
 have h2 := Wd.lt v
 rw [wrapu (by omega) (by omega)]
 unfold Wd at *
 rw [BitVec.toNat_sub]
 have : (1#64).toNat = 1 := rfl
 rw [this]
 omega
theorem tz_tab : ∀ k : Fin 64, (0 ≤ Bw.shr .u64 (IntKind.u64.wrap (Wd (BitVec.twoPow 64 k.1) * 285870213051353865)) 58 ∧ Bw.shr .u64 (IntKind.u64.wrap (Wd (BitVec.twoPow 64 k.1) * 285870213051353865)) 58 < (64 : Int)) ∧
 IntKind.i64.wrap (gt Tryz.gtab0 (Bw.shr .u64 (IntKind.u64.wrap (Wd (BitVec.twoPow 64 k.1) * 285870213051353865)) 58)) = (k.1 : Int) := by decide +kernel
theorem tz_run {v : BitVec 64} {k : Nat} (hk : v.getLsbD k = true) (hb : ∀ i, i < k → v.getLsbD i = false) : Q41.f (Wd v) = some (k : Int) := by
 have hk64 := BitVec.lt_of_getLsbD hk
 have hv : Wd v ≠ 0 := fun e => by
  have : v = 0#64 := Wd.inj (e.trans rfl)
  rw [this] at hk
  simp at hk
 obtain ⟨h1, h2⟩ := tz_tab ⟨k, hk64⟩
 have hix : Q41.ix (Wd v) = Bw.shr .u64 (IntKind.u64.wrap (Wd (BitVec.twoPow 64 k) * 285870213051353865)) 58 := by
  unfold Q41.ix
  rw [wrap_neg, Q153, low_only hk hb]
 unfold Q41.f
 rw [if_neg hv, hix, if_pos h1, h2]
def wplaces (base : Int) (v : BitVec 64) : List Int := ((List.range 64).filter fun i => v.getLsbD i).map fun i : Nat => base + i
theorem Q314 (base : Int) : wplaces base 0#64 = [] := by
 unfold wplaces
 rw [List.filter_eq_nil_iff.2 (fun a _ => by simp)]
 rfl
theorem Q318 (base : Int) {v : BitVec 64} {k : Nat} (hk : v.getLsbD k = true) (hb : ∀ i, i < k → v.getLsbD i = false) : wplaces base v = (base + k) :: wplaces base (v &&& (v - 1#64)) := by
 have hk64 := BitVec.lt_of_getLsbD hk
 unfold wplaces
 have hr : List.range 64 = List.range k ++ k :: List.range' (k + 1) (63 - k) := by
  rw [List.range_eq_range', List.range_eq_range', show (64 : Nat) = k + (1 + (63 - k)) from by omega, ← List.range'_append_1, Nat.zero_add, Nat.add_comm 1, List.range'_succ]
 have e1 : (List.range k).filter (fun i => v.getLsbD i) = [] := List.filter_eq_nil_iff.2 fun a ha => by rw [hb a (by simpa using ha)]; simp
 have e2 : (List.range k).filter (fun i => (v &&& (v - 1#64)).getLsbD i) = [] := List.filter_eq_nil_iff.2 fun a ha => by rw [Q189 hk hb, hb a (by simpa using ha)]; simp
 have e3 : (List.range' (k + 1) (63 - k)).filter (fun i => v.getLsbD i) = (List.range' (k + 1) (63 - k)).filter (fun i => (v &&& (v - 1#64)).getLsbD i) := List.filter_congr fun a ha => by
  rw [Q189 hk hb]
  have : k + 1 ≤ a := (List.mem_range'_1.1 ha).1
  rw [decide_eq_false (by omega)]; simp
 have e4 : (v &&& (v - 1#64)).getLsbD k = false := by rw [Q189 hk hb]; simp
 rw [hr, List.filter_append, List.filter_append, e1, e2, List.filter_cons_of_pos (by simpa using hk), List.filter_cons_of_neg (by simp [e4]), e3]
 rfl
theorem Q119 (base : Int) (v : BitVec 64) : (wplaces base v).length ≤ 64 := by
 unfold wplaces
 rw [List.length_map]
 exact Nat.le_trans (List.length_filter_le _ _) (by simp)
theorem Q250 {base : Int} {v : BitVec 64} {t : Int} : t ∈ wplaces base v ↔ ∃ i : Nat, i < 64 ∧ v.getLsbD i = true ∧ t = base + i := by
 unfold wplaces
 rw [List.mem_map]
 constructor
 ·rintro ⟨i, hi, rfl⟩
  rw [List.mem_filter] at hi
  exact ⟨i, by simpa using hi.1, by simpa using hi.2, rfl⟩
 ·rintro ⟨i, h1, h2, rfl⟩
  exact ⟨i, List.mem_filter.2 ⟨by simpa using h1, by simpa using h2⟩, rfl⟩
theorem Q161 (base : Int) (v : BitVec 64) : (wplaces base v).Pairwise (· < ·) := by
 unfold wplaces
 rw [List.pairwise_map]
 refine (List.pairwise_lt_range (n := 64)).filter _ |>.imp fun h => by omega
noncomputable def listB (base : Int) (x : List Int) (v : Int) : Option (((List Int) × Int) ⊕ (((List Int)) ⊕ ((List Int)))) :=
 if v = 0 then
  dn (.inl x)
 else
  (Q41.f v).bind fun t =>
   if (x.length + ([(IntKind.i64.wrap (base + t))] : List Int).length) * 8 ≤ 140737488355328 then
    nx ((x ++ ([(IntKind.i64.wrap (base + t))] : List Int)), band .u64 v (IntKind.u64.wrap (v - 1)))
   else none
theorem Q163 {base : Int} (hb0 : 0 ≤ base) (hb1 : base ≤ 192) (acc : List Int) (ha : acc.length ≤ 192) (v : BitVec 64) :
 iter (fun t_ : List Int × Int => listB base t_.1 t_.2) (acc, Wd v) = some (.inl (acc ++ wplaces base v)) := by
 obtain ⟨r, hr, rfl⟩ := Q25 (body := fun t_ : List Int × Int => listB base t_.1 t_.2) (fun s => ∃ u : BitVec 64, s.2 = Wd u ∧ s.1 ++ wplaces base u = acc ++ wplaces base v)
  (fun r => r = .inl (acc ++ wplaces base v)) (fun s => (256 - s.1.length)) (fun ⟨x, w⟩ ⟨u, h1, h2⟩ => by
   dsimp only at h1 h2 ⊢
   subst h1
   unfold listB
   by_cases hu : u = 0#64
   ·left
    subst hu
    rw [Q314, List.append_nil] at h2
    rw [if_pos (show Wd 0#64 = 0 from rfl), h2]
    exact ⟨_, rfl, rfl⟩
   ·right
    obtain ⟨k, hk, hk1, hk2⟩ := low_ex hu
    have hw : Wd u ≠ 0 := fun e => hu (Wd.inj (e.trans rfl))
    have hp := Q318 base hk1 hk2
    have hlen : x.length + (wplaces base u).length = acc.length + (wplaces base v).length := by rw [← List.length_append, h2, List.length_append]
    have hpl := Q119 base v
    have hpu : 1 ≤ (wplaces base u).length := by rw [hp]; simp
    rw [if_neg hw, tz_run hk1 hk2, Option.bind_some, if_pos (by simp only [List.length_cons, List.length_nil]; omega), wrap_pred u hu, Q153, wrap64 (x := base + k) (by omega) (by omega)]
    refine ⟨_, rfl, ⟨_, rfl, ?_⟩, ?_⟩
    ·dsimp only
     rw [List.append_assoc, List.singleton_append, ← hp, h2]
    ·dsimp only
     rw [List.length_append, List.length_singleton]; omega) (acc, Wd v) ⟨v, rfl, rfl⟩
 exact hr
theorem band127 (n : Int) : 0 ≤ band .i64 n 127 ∧ band .i64 n 127 ≤ 127 := by
 show 0 ≤ IntKind.i64.wrap ((BitVec.ofInt 64 n &&& BitVec.ofInt 64 127).toNat : Int) ∧ _
 have e2 : (BitVec.ofInt 64 127).toNat = 2 ^ 7 - 1 := by rfl
 have e3 : (BitVec.ofInt 64 n &&& BitVec.ofInt 64 127).toNat = (BitVec.ofInt 64 n).toNat % 2 ^ 7 := by rw [BitVec.toNat_and, e2, Nat.and_two_pow_sub_one_eq_mod]
 have : (BitVec.ofInt 64 n).toNat % 2 ^ 7 < 2 ^ 7 := Nat.mod_lt _ (by decide)
 have h4 : band .i64 n 127 = IntKind.i64.wrap ((BitVec.ofInt 64 n &&& BitVec.ofInt 64 127).toNat : Int) := rfl
 rw [h4, e3, wrap64 (by omega) (by omega)]
 omega
theorem Q171 (a : Int) : ∃ t, Q23.f a = some t ∧ 0 ≤ t ∧ t ≤ 127 := ⟨_, rfl, band127 _⟩
theorem len_run (a b c d : Int) : ∃ t, Q108.f a b c d = some t ∧ 0 ≤ t ∧ t ≤ 508 := by
 obtain ⟨t1, h1, a1, b1⟩ := Q171 a
 obtain ⟨t2, h2, a2, b2⟩ := Q171 b
 obtain ⟨t3, h3, a3, b3⟩ := Q171 c
 obtain ⟨t4, h4, a4, b4⟩ := Q171 d
 refine ⟨t1 + t2 + t3 + t4, ?_, by omega, by omega⟩
 unfold Q108.f
 rw [h1, h2, h3, h4]
 simp only [Option.bind_some]
 rw [wrap64 (x := 0 + t1) (by omega) (by omega), wrap64 (x := 0 + t1 + t2) (by omega) (by omega), wrap64 (x := 0 + t1 + t2 + t3) (by omega) (by omega), wrap64 (x := 0 + t1 + t2 + t3 + t4) (by omega) (by omega)]
 congr 1
 omega
def W4.list (u : W4) : List Int := wplaces 0 u.a ++ wplaces 64 u.b ++ wplaces 128 u.c ++ wplaces 192 u.d
theorem Q266 (u : W4) : Q19.f (Wd u.a) (Wd u.b) (Wd u.c) (Wd u.d) = some u.list := by
 obtain ⟨t, ht, t0, t1⟩ := len_run (Wd u.a) (Wd u.b) (Wd u.c) (Wd u.d)
 have la := Q119 0 u.a
 have lb := Q119 64 u.b
 have lc := Q119 128 u.c
 have e0 : Q19.l0 [] (Wd u.a) = some (.inl ([] ++ wplaces 0 u.a)) := Q163 (base := 0) (by decide) (by decide) [] (by simp) u.a
 have e1 : Q19.l1 ([] ++ wplaces 0 u.a) (Wd u.b) = some (.inl (([] ++ wplaces 0 u.a) ++ wplaces 64 u.b)) := Q163 (base := 64) (by decide) (by decide) _ (by simp; omega) u.b
 have e2 : Q19.l2 (([] ++ wplaces 0 u.a) ++ wplaces 64 u.b) (Wd u.c) = some (.inl ((([] ++ wplaces 0 u.a) ++ wplaces 64 u.b) ++ wplaces 128 u.c)) := Q163 (base := 128) (by decide) (by decide) _ (by simp; omega) u.c
 have e3 : Q19.l3 ((([] ++ wplaces 0 u.a) ++ wplaces 64 u.b) ++ wplaces 128 u.c) (Wd u.d) = some (.inl (((([] ++ wplaces 0 u.a) ++ wplaces 64 u.b) ++ wplaces 128 u.c) ++ wplaces 192 u.d)) := Q163 (base := 192) (by decide) (by decide) _ (by simp; omega) u.d
 unfold Q19.f
 rw [ht, Option.bind_some, if_pos (by omega), e0, Q10, e1, Q10, e2, Q10, e3, Q10]
 rfl
theorem Q160 {u : W4} {S : Int → Prop} (h : u.Rep S) {t : Int} : t ∈ u.list ↔ 0 ≤ t ∧ t < 256 ∧ S t := by
 have key : ∀ (k : Int) (i : Nat), 0 ≤ k → k < 4 → i < 64 → ((u.sel k).getLsbD i = true ↔ S (64 * k + i)) := fun k i k0 k1 hi => by
  have := h (64 * k + i) (by omega) (by omega)
  unfold W4.has at this
  rwa [show (64 * k + (i : Int)) / 64 = k from by omega, show ((64 * k + (i : Int)) % 64).toNat = i from by omega] at this
 have kk : ∀ (k : Int), 0 ≤ k → k < 4 → (t ∈ wplaces (64 * k) (u.sel k) ↔ 64 * k ≤ t ∧ t < 64 * k + 64 ∧ S t) := fun k k0 k1 => by
  rw [Q250]
  constructor
  ·rintro ⟨i, hi, h1, rfl⟩
   exact ⟨by omega, by omega, (key k i k0 k1 hi).1 h1⟩
  ·rintro ⟨h1, h2, h3⟩
   refine ⟨(t - 64 * k).toNat, by omega, (key k _ k0 k1 (by omega)).2 ?_, by omega⟩
   rwa [show 64 * k + ((t - 64 * k).toNat : Int) = t from by omega]
 have k0 := kk 0 (by decide) (by decide)
 have k1 := kk 1 (by decide) (by decide)
 have k2 := kk 2 (by decide) (by decide)
 have k3 := kk 3 (by decide) (by decide)
 simp [W4.sel] at k0 k1 k2 k3
 unfold W4.list
 rw [List.mem_append, List.mem_append, List.mem_append, k0, k1, k2, k3]
 constructor
 ·rintro (((⟨a, b, c⟩ | ⟨a, b, c⟩) | ⟨a, b, c⟩) | ⟨a, b, c⟩) <;> exact ⟨by omega, by omega, c⟩
 ·rintro ⟨a, b, c⟩
  by_cases h1 : t < 64
  ·exact .inl (.inl (.inl ⟨a, h1, c⟩))
  ·by_cases h2 : t < 128
   ·exact .inl (.inl (.inr ⟨by omega, by omega, c⟩))
   ·by_cases h3 : t < 192
    ·exact .inl (.inr ⟨by omega, by omega, c⟩)
    ·exact .inr ⟨by omega, by omega, c⟩
theorem Q253 (u : W4) : u.list.length ≤ 256 := by
 have a := Q119 0 u.a
 have b := Q119 64 u.b
 have c := Q119 128 u.c
 have d := Q119 192 u.d
 unfold W4.list
 simp only [List.length_append]
 omega
theorem has_run {u : W4} {n : Int} : Q116.f (Wd u.a) (Wd u.b) (Wd u.c) (Wd u.d) n = some (decide (0 ≤ n ∧ n < 256) && u.has n) := by
 unfold Q116.f
 by_cases h0 : 0 ≤ n
 ·rw [if_pos h0, Q10]
  by_cases h1 : n < 256
  ·have hm : IntKind.u64.wrap (band .i64 n 63) = n % 64 := by rw [band63 h0 (by omega), wrapu (by omega) (by omega)]
   have hbit : ∀ v : BitVec 64, decide (band .u64 (Bw.shr .u64 (Wd v) (n % 64)) 1 = 1) = v.getLsbD (n % 64).toNat := fun v => by
    rw [Bool.eq_iff_iff, decide_eq_true_eq, Q159 v (by omega) (by omega)]
   have hn : (0 : Int) ≤ n % 64 := by omega
   have hr : (0 : Int) ≤ n / 64 ∧ n / 64 < 4 := by omega
   rw [if_pos (decide_eq_true h1), shr6 h0, hm, if_pos hr, decide_eq_true (show 0 ≤ n ∧ n < 256 from ⟨h0, h1⟩), Bool.true_and]
   simp only [if_pos hn, hbit]
   unfold W4.has W4.sel
   by_cases k0 : n / 64 = 0
   ·simp [k0, jn]
   ·by_cases k1 : n / 64 = 1
    ·simp [k1, jn]
    ·by_cases k2 : n / 64 = 2
     ·simp [k2, jn]
     ·simp [k0, k1, k2, jn]
  ·rw [if_neg (by simp; omega), decide_eq_false (by omega)]
   rfl
 ·rw [if_neg h0, Q10, if_neg (by simp), decide_eq_false (by omega)]
  rfl
end Go.Bw
namespace Go.Bw
open Go Go.RowKit

def Hx (z : List Q1) (m : List (Bs × Q5)) : Prop := ∀ k, ∃ u : W4, (mget m k).getD set0 = u.s ∧ u.Rep (fun t => ∃ p ∈ z, p.Name = k ∧ t ∈ p.States)
theorem holds_run (z : List Q1) (hz : (z.length : Int) ≤ 9223372036854775807) (hs : ∀ p ∈ z, (p.States.length : Int) ≤ 9223372036854775807) (hd : ∀ i j : Int, 0 ≤ i → i < j → j < (z.length : Int) → (gt z i).Name ≠ (gt z j).Name) :
 ∃ m, Q21.l0 z [] 0 = some (.inl m) ∧ Hx z m := by
 obtain ⟨r, hr, m, rfl, hm⟩ := Q25 (body := fun t_ : List (Bs × Q5) × Int => Q21.l0b z t_.1 t_.2) (fun s => 0 ≤ s.2 ∧ s.2 ≤ (z.length : Int) ∧ Hx (z.take s.2.toNat) s.1)
  (fun r => ∃ m, r = .inl m ∧ Hx z m) (fun s => ((z.length : Int) - s.2).toNat) (fun ⟨m, i⟩ ⟨h0, h1, h2⟩ => by
   dsimp only at h0 h1 h2 ⊢
   unfold Q21.l0b
   by_cases hi : i < (z.length : Int)
   ·right
    obtain ⟨u, hu, hur⟩ := of_run4 (hs _ (Q32 h0 hi))
    rw [if_pos hi, if_pos ⟨h0, hi⟩, hu, wrap64 (x := i + 1) (by omega) (by omega)]
    refine ⟨_, rfl, ⟨by dsimp only; omega, by dsimp only; omega, fun k => ?_⟩, by dsimp only; omega⟩
    dsimp only
    rw [show (i + 1).toNat = i.toNat + 1 from by omega, List.take_add_one, Q40 h0 hi, Q220]
    by_cases hk : (gt z i).Name = k
    ·rw [if_pos hk]
     refine ⟨u, rfl, fun n n0 n1 => ?_⟩
     rw [hur n n0 n1]
     constructor
     ·intro h; exact ⟨gt z i, by simp, hk, h⟩
     ·rintro ⟨p, hp, e1, e2⟩
      rcases List.mem_append.1 hp with hp | hp
      ·obtain ⟨q, hq, rfl⟩ := List.getElem_of_mem hp
       have hq' : q < i.toNat := by simp at hq; omega
       have hq2 : q < z.length := by simp at hq; omega
       have := hd q i (by omega) (by omega) hi
       rw [Q88 (List.getElem?_eq_getElem hq2)] at this
       simp only [List.getElem_take] at e1
       exact absurd (e1.trans hk.symm) this
      ·simp at hp; subst hp; exact e2
    ·rw [if_neg hk]
     obtain ⟨v, hv, hvr⟩ := h2 k
     refine ⟨v, hv, fun n n0 n1 => ?_⟩
     rw [hvr n n0 n1]
     constructor
     ·rintro ⟨p, a, b⟩; exact ⟨p, by simp [a], b⟩
     ·rintro ⟨p, a, b, c⟩
      rcases List.mem_append.1 a with a | a
      ·exact ⟨p, a, b, c⟩
      ·simp at a; subst a; exact absurd b hk
   ·left
    rw [if_neg hi]
    rw [List.take_of_length_le (by omega)] at h2
    exact ⟨_, rfl, m, rfl, h2⟩) ([], 0) ⟨Int.le_refl _, by dsimp only; omega, fun k => ⟨W4.z, rfl, fun n n0 n1 => by
     rw [W4.z_rep n n0 n1]
     simp⟩⟩
 exact ⟨m, hr, hm⟩
end Go.Bw
namespace Go.Bw
open Go Go.RowKit

theorem Q148 {κ ν : Type} [DecidableEq κ] : ∀ (m : List (κ × ν)) (k k' : κ) (v : ν), mget (mset m k v) k' = if k = k' then some v else mget m k'
 | [], k, k', v => by unfold mset mget; split <;> rfl
 | p :: r, k, k', v => by
  unfold mset
  by_cases h : p.1 = k
  ·rw [if_pos h]
   unfold mget
   by_cases h2 : k = k'
   ·simp [h2]
   ·rw [if_neg h2, if_neg h2, if_neg (fun h3 => h2 (h.symm.trans h3))]
  ·rw [if_neg h]
   unfold mget
   by_cases h2 : p.1 = k'
   ·rw [if_pos h2, if_pos h2, if_neg (fun h3 => h (h2.trans h3.symm))]
   ·rw [if_neg h2, if_neg h2, Q148 r k k' v]
theorem Q229 {κ ν : Type} [DecidableEq κ] : ∀ (m : List (κ × ν)) (k : κ) (v : ν), mget m k = none → (mset m k v).length = m.length + 1
 | [], k, v, _ => rfl
 | p :: r, k, v, h => by
  unfold mget at h
  unfold mset
  by_cases h2 : p.1 = k
  ·rw [if_pos h2] at h; cases h
  ·rw [if_neg h2] at h
   rw [if_neg h2, List.length_cons, Q229 r k v h, List.length_cons]
section
variable {κ : Type} [DecidableEq κ] {key : Int → κ}
structure NInv (key : Int → κ) (n i : Int) (l : List Int) (mp : List (κ × Int)) : Prop where
 len : (l.length : Int) = n
 at_ : ∀ j : Int, 0 ≤ j → j < i → mget mp (key j) = some (gt l j)
 old : ∀ k v, mget mp k = some v → 0 ≤ v ∧ v < (mp.length : Int) ∧ ∃ j : Int, 0 ≤ j ∧ j < i ∧ key j = k
 inj : ∀ k k' v, mget mp k = some v → mget mp k' = some v → k = k'
 can : ∀ j : Int, 0 ≤ j → j < i → ∀ v : Int, 0 ≤ v → v < gt l j → ∃ q : Int, 0 ≤ q ∧ q < j ∧ gt l q = v
 all : ∀ v : Int, 0 ≤ v → v < (mp.length : Int) → ∃ q : Int, 0 ≤ q ∧ q < i ∧ gt l q = v
theorem NInv.zero {n : Int} {l : List Int} (h : (l.length : Int) = n) : NInv key n 0 l ([] : List (κ × Int)) :=
 ⟨h, fun j h0 h1 => by omega, fun k v h => by simp [mget] at h, fun k k' v h => by simp [mget] at h, fun j h0 h1 => by omega, fun v h0 h1 => by simp at h1; omega⟩
theorem NInv.hit {n i v : Int} {l : List Int} {mp : List (κ × Int)} (h : NInv key n i l mp) (h0 : 0 ≤ i) (h1 : i < n) (hv : mget mp (key i) = some v) : NInv key n (i + 1) (st l i v) mp := by
 have hl := h.len
 have hlt : i < (l.length : Int) := by omega
 have hg : ∀ j : Int, 0 ≤ j → gt (st l i v) j = if j = i then v else gt l j := fun j hj => Q90 h0 hlt hj
 obtain ⟨v0, v1, jv, jv0, jv1, jv2⟩ := h.old _ _ hv
 have hjv : gt l jv = v := by
  have := h.at_ jv jv0 jv1
  rw [jv2, hv] at this
  exact (Option.some.inj this).symm
 refine ⟨by rw [Q93]; exact hl, fun j j0 j1 => ?_, fun k w hk => ?_, h.inj, fun j j0 j1 w w0 w1 => ?_, fun w w0 w1 => ?_⟩
 ·rw [hg j j0]
  by_cases hj : j = i
  ·rw [if_pos hj, hj]; exact hv
  ·rw [if_neg hj]; exact h.at_ j j0 (by omega)
 ·obtain ⟨a, b, q, q0, q1, q2⟩ := h.old k w hk
  exact ⟨a, b, q, q0, by omega, q2⟩
 ·rw [hg j j0] at w1
  by_cases hj : j = i
  ·rw [if_pos hj, ← hjv] at w1
   obtain ⟨q, q0, q1, q2⟩ := h.can jv jv0 jv1 w w0 w1
   exact ⟨q, q0, by omega, by rw [hg q q0, if_neg (by omega)]; exact q2⟩
  ·rw [if_neg hj] at w1
   obtain ⟨q, q0, q1, q2⟩ := h.can j j0 (by omega) w w0 w1
   exact ⟨q, q0, q1, by rw [hg q q0, if_neg (by omega)]; exact q2⟩
 ·obtain ⟨q, q0, q1, q2⟩ := h.all w w0 w1
  exact ⟨q, q0, by omega, by rw [hg q q0, if_neg (by omega)]; exact q2⟩
theorem NInv.new {n i : Int} {l : List Int} {mp : List (κ × Int)} (h : NInv key n i l mp) (h0 : 0 ≤ i) (h1 : i < n) (hv : mget mp (key i) = none) : NInv key n (i + 1) (st l i (mp.length : Int)) (mset mp (key i) (mp.length : Int)) := by
 have hl := h.len
 have hlt : i < (l.length : Int) := by omega
 have hg : ∀ j : Int, 0 ≤ j → gt (st l i (mp.length : Int)) j = if j = i then (mp.length : Int) else gt l j := fun j hj => Q90 h0 hlt hj
 have hml := Q229 mp (key i) (mp.length : Int) hv
 refine ⟨by rw [Q93]; exact hl, fun j j0 j1 => ?_, fun k w hk => ?_, fun k k' w hk hk' => ?_, fun j j0 j1 w w0 w1 => ?_, fun w w0 w1 => ?_⟩
 ·rw [hg j j0, Q148]
  by_cases hj : j = i
  ·rw [if_pos hj, hj, if_pos rfl]
  ·rw [if_neg hj]
   have := h.at_ j j0 (by omega)
   rw [if_neg (fun e => by rw [e, this] at hv; cases hv)]
   exact this
 ·rw [Q148] at hk
  by_cases e : key i = k
  ·rw [if_pos e] at hk
   obtain rfl := Option.some.inj hk
   exact ⟨by omega, by rw [hml]; omega, i, h0, by omega, e⟩
  ·rw [if_neg e] at hk
   obtain ⟨a, b, q, q0, q1, q2⟩ := h.old k w hk
   exact ⟨a, by rw [hml]; omega, q, q0, by omega, q2⟩
 ·rw [Q148] at hk hk'
  by_cases e : key i = k
  ·by_cases e' : key i = k'
   ·exact e.symm.trans e'
   ·rw [if_pos e] at hk
    rw [if_neg e'] at hk'
    obtain rfl := Option.some.inj hk
    have := (h.old _ _ hk').2.1
    omega
  ·rw [if_neg e] at hk
   by_cases e' : key i = k'
   ·rw [if_pos e'] at hk'
    obtain rfl := Option.some.inj hk'
    have := (h.old _ _ hk).2.1
    omega
   ·rw [if_neg e'] at hk'
    exact h.inj k k' w hk hk'
 ·rw [hg j j0] at w1
  by_cases hj : j = i
  ·rw [if_pos hj] at w1
   obtain ⟨q, q0, q1, q2⟩ := h.all w w0 w1
   exact ⟨q, q0, by omega, by rw [hg q q0, if_neg (by omega)]; exact q2⟩
  ·rw [if_neg hj] at w1
   obtain ⟨q, q0, q1, q2⟩ := h.can j j0 (by omega) w w0 w1
   exact ⟨q, q0, q1, by rw [hg q q0, if_neg (by omega)]; exact q2⟩
 ·rw [hml] at w1
  by_cases hw : w = (mp.length : Int)
  ·exact ⟨i, h0, by omega, by rw [hg i h0, if_pos rfl, hw]⟩
  ·obtain ⟨q, q0, q1, q2⟩ := h.all w w0 (by omega)
   exact ⟨q, q0, by omega, by rw [hg q q0, if_neg (by omega)]; exact q2⟩
structure NumBy (key : Int → κ) (n : Int) (l : List Int) : Prop where
 len : (l.length : Int) = n
 canon : Canon l
 iff : ∀ i j : Int, 0 ≤ i → i < n → 0 ≤ j → j < n → (gt l i = gt l j ↔ key i = key j)
theorem NInv.fin {n : Int} {l : List Int} {mp : List (κ × Int)} (h : NInv key n n l mp) : NumBy key n l := by
 refine ⟨h.len, fun i i0 i1 => ?_, fun i j i0 i1 j0 j1 => ⟨fun e => ?_, fun e => ?_⟩⟩
 ·rw [h.len] at i1
  exact ⟨(h.old _ _ (h.at_ i i0 i1)).1, h.can i i0 i1⟩
 ·exact h.inj _ _ _ (h.at_ i i0 i1) (by rw [e]; exact h.at_ j j0 j1)
 ·have a := h.at_ i i0 i1
  have b := h.at_ j j0 j1
  rw [e, b] at a
  exact (Option.some.inj a).symm
end
end Go.Bw
namespace Go.Bw
open Go Go.RowKit

def upd (f : Int → W4) (i : Int) (u : W4) : Int → W4 := fun j => if j = i then u else f j
def T32 (f : Int → W4) : Int × Int × Int × Int × Int × Int × Int × Int × Int × Int × Int × Int × Int × Int × Int × Int × Int × Int × Int × Int × Int × Int × Int × Int × Int × Int × Int × Int × Int × Int × Int × Int := (Wd (f 0).a, Wd (f 0).b, Wd (f 0).c, Wd (f 0).d, Wd (f 1).a, Wd (f 1).b, Wd (f 1).c, Wd (f 1).d, Wd (f 2).a, Wd (f 2).b, Wd (f 2).c, Wd (f 2).d, Wd (f 3).a, Wd (f 3).b, Wd (f 3).c, Wd (f 3).d, Wd (f 4).a, Wd (f 4).b, Wd (f 4).c, Wd (f 4).d, Wd (f 5).a, Wd (f 5).b, Wd (f 5).c, Wd (f 5).d, Wd (f 6).a, Wd (f 6).b, Wd (f 6).c, Wd (f 6).d, Wd (f 7).a, Wd (f 7).b, Wd (f 7).c, Wd (f 7).d)
def T33 (f : Int → W4) (p : Int) : Int × Int × Int × Int × Int × Int × Int × Int × Int × Int × Int × Int × Int × Int × Int × Int × Int × Int × Int × Int × Int × Int × Int × Int × Int × Int × Int × Int × Int × Int × Int × Int × Int := (Wd (f 0).a, Wd (f 0).b, Wd (f 0).c, Wd (f 0).d, Wd (f 1).a, Wd (f 1).b, Wd (f 1).c, Wd (f 1).d, Wd (f 2).a, Wd (f 2).b, Wd (f 2).c, Wd (f 2).d, Wd (f 3).a, Wd (f 3).b, Wd (f 3).c, Wd (f 3).d, Wd (f 4).a, Wd (f 4).b, Wd (f 4).c, Wd (f 4).d, Wd (f 5).a, Wd (f 5).b, Wd (f 5).c, Wd (f 5).d, Wd (f 6).a, Wd (f 6).b, Wd (f 6).c, Wd (f 6).d, Wd (f 7).a, Wd (f 7).b, Wd (f 7).c, Wd (f 7).d, p)
def O33 (o : Option Q2) (f : Int → W4) : Option Q2 × Int × Int × Int × Int × Int × Int × Int × Int × Int × Int × Int × Int × Int × Int × Int × Int × Int × Int × Int × Int × Int × Int × Int × Int × Int × Int × Int × Int × Int × Int × Int × Int := (o, Wd (f 0).a, Wd (f 0).b, Wd (f 0).c, Wd (f 0).d, Wd (f 1).a, Wd (f 1).b, Wd (f 1).c, Wd (f 1).d, Wd (f 2).a, Wd (f 2).b, Wd (f 2).c, Wd (f 2).d, Wd (f 3).a, Wd (f 3).b, Wd (f 3).c, Wd (f 3).d, Wd (f 4).a, Wd (f 4).b, Wd (f 4).c, Wd (f 4).d, Wd (f 5).a, Wd (f 5).b, Wd (f 5).c, Wd (f 5).d, Wd (f 6).a, Wd (f 6).b, Wd (f 6).c, Wd (f 6).d, Wd (f 7).a, Wd (f 7).b, Wd (f 7).c, Wd (f 7).d)
def O34 (o : Option Q2) (f : Int → W4) (p : Int) : Option Q2 × Int × Int × Int × Int × Int × Int × Int × Int × Int × Int × Int × Int × Int × Int × Int × Int × Int × Int × Int × Int × Int × Int × Int × Int × Int × Int × Int × Int × Int × Int × Int × Int × Int := (o, Wd (f 0).a, Wd (f 0).b, Wd (f 0).c, Wd (f 0).d, Wd (f 1).a, Wd (f 1).b, Wd (f 1).c, Wd (f 1).d, Wd (f 2).a, Wd (f 2).b, Wd (f 2).c, Wd (f 2).d, Wd (f 3).a, Wd (f 3).b, Wd (f 3).c, Wd (f 3).d, Wd (f 4).a, Wd (f 4).b, Wd (f 4).c, Wd (f 4).d, Wd (f 5).a, Wd (f 5).b, Wd (f 5).c, Wd (f 5).d, Wd (f 6).a, Wd (f 6).b, Wd (f 6).c, Wd (f 6).d, Wd (f 7).a, Wd (f 7).b, Wd (f 7).c, Wd (f 7).d, p)
theorem Q150 {σ ρ : Type} {body : σ → Option (σ ⊕ ρ)} {s s' : σ} (h : body s = some (.inl s')) : iter body s = iter body s' := by rw [Q67, h]; rfl
theorem Q156 {σ ρ : Type} {body : σ → Option (σ ⊕ ρ)} {s : σ} {r : ρ} (h : body s = some (.inr r)) : iter body s = some r := by rw [Q67, h]; rfl
def putc (u : W4) (c : Int) : W4 := if 0 ≤ c ∧ c < 256 then u.put c else u
theorem Q113 (u : W4) (c : Int) : Q24.f (Wd u.a) (Wd u.b) (Wd u.c) (Wd u.d) c = some (putc u c).t := Q181
theorem sg_l1b (l : List Int) {i : Int} (h0 : 0 ≤ i) (h1 : i < 8) (L : List Int) (f : Int → W4) {p : Int} (p0 : 0 ≤ p) (p1 : p < (L.length : Int)) (hL : (L.length : Int) ≤ 256) (g0 : 0 ≤ gt L p) (g1 : gt L p < (l.length : Int)) :
 Q22.l1b l i L (Wd (f 0).a) (Wd (f 0).b) (Wd (f 0).c) (Wd (f 0).d) (Wd (f 1).a) (Wd (f 1).b) (Wd (f 1).c) (Wd (f 1).d) (Wd (f 2).a) (Wd (f 2).b) (Wd (f 2).c) (Wd (f 2).d) (Wd (f 3).a) (Wd (f 3).b) (Wd (f 3).c) (Wd (f 3).d) (Wd (f 4).a) (Wd (f 4).b) (Wd (f 4).c) (Wd (f 4).d) (Wd (f 5).a) (Wd (f 5).b) (Wd (f 5).c) (Wd (f 5).d) (Wd (f 6).a) (Wd (f 6).b) (Wd (f 6).c) (Wd (f 6).d) (Wd (f 7).a) (Wd (f 7).b) (Wd (f 7).c) (Wd (f 7).d) p = some (.inl (T33 (upd f i (putc (f i) (gt l (gt L p)))) (p + 1))) := by
 have hw : IntKind.i64.wrap (p + 1) = p + 1 := wrap64 (by omega) (by omega)
 unfold Q22.l1b
 rw [if_pos p1, if_pos ⟨p0, p1⟩, if_pos ⟨h0, h1⟩]
 have hi : i = 0 ∨ i = 1 ∨ i = 2 ∨ i = 3 ∨ i = 4 ∨ i = 5 ∨ i = 6 ∨ i = 7 := by omega
 rcases hi with rfl | rfl | rfl | rfl | rfl | rfl | rfl | rfl
 ·rw [if_pos (rfl : (0 : Int) = 0)]; rw [if_pos ⟨g0, g1⟩, Q113, Option.bind_some, Q10, hw]; rfl
 ·rw [if_neg (show ¬ ((1 : Int) = 0) by decide)]; rw [if_pos (rfl : (1 : Int) = 1)]; rw [if_pos ⟨g0, g1⟩, Q113, Option.bind_some, Q10, hw]; rfl
 ·rw [if_neg (show ¬ ((2 : Int) = 0) by decide)]; rw [if_neg (show ¬ ((2 : Int) = 1) by decide)]; rw [if_pos (rfl : (2 : Int) = 2)]; rw [if_pos ⟨g0, g1⟩, Q113, Option.bind_some, Q10, hw]; rfl
 ·rw [if_neg (show ¬ ((3 : Int) = 0) by decide)]; rw [if_neg (show ¬ ((3 : Int) = 1) by decide)]; rw [if_neg (show ¬ ((3 : Int) = 2) by decide)]; rw [if_pos (rfl : (3 : Int) = 3)]; rw [if_pos ⟨g0, g1⟩, Q113, Option.bind_some, Q10, hw]; rfl
 ·rw [if_neg (show ¬ ((4 : Int) = 0) by decide)]; rw [if_neg (show ¬ ((4 : Int) = 1) by decide)]; rw [if_neg (show ¬ ((4 : Int) = 2) by decide)]; rw [if_neg (show ¬ ((4 : Int) = 3) by decide)]; rw [if_pos (rfl : (4 : Int) = 4)]; rw [if_pos ⟨g0, g1⟩, Q113, Option.bind_some, Q10, hw]; rfl
 ·rw [if_neg (show ¬ ((5 : Int) = 0) by decide)]; rw [if_neg (show ¬ ((5 : Int) = 1) by decide)]; rw [if_neg (show ¬ ((5 : Int) = 2) by decide)]; rw [if_neg (show ¬ ((5 : Int) = 3) by decide)]; rw [if_neg (show ¬ ((5 : Int) = 4) by decide)]; rw [if_pos (rfl : (5 : Int) = 5)]; rw [if_pos ⟨g0, g1⟩, Q113, Option.bind_some, Q10, hw]; rfl
 ·rw [if_neg (show ¬ ((6 : Int) = 0) by decide)]; rw [if_neg (show ¬ ((6 : Int) = 1) by decide)]; rw [if_neg (show ¬ ((6 : Int) = 2) by decide)]; rw [if_neg (show ¬ ((6 : Int) = 3) by decide)]; rw [if_neg (show ¬ ((6 : Int) = 4) by decide)]; rw [if_neg (show ¬ ((6 : Int) = 5) by decide)]; rw [if_pos (rfl : (6 : Int) = 6)]; rw [if_pos ⟨g0, g1⟩, Q113, Option.bind_some, Q10, hw]; rfl
 ·rw [if_neg (show ¬ ((7 : Int) = 0) by decide)]; rw [if_neg (show ¬ ((7 : Int) = 1) by decide)]; rw [if_neg (show ¬ ((7 : Int) = 2) by decide)]; rw [if_neg (show ¬ ((7 : Int) = 3) by decide)]; rw [if_neg (show ¬ ((7 : Int) = 4) by decide)]; rw [if_neg (show ¬ ((7 : Int) = 5) by decide)]; rw [if_neg (show ¬ ((7 : Int) = 6) by decide)]; rw [if_pos ⟨g0, g1⟩, Q113, Option.bind_some, Q10, hw]; rfl
theorem sg_l1 (l : List Int) {i : Int} (h0 : 0 ≤ i) (h1 : i < 8) (L : List Int) (hL : (L.length : Int) ≤ 256) (hin : ∀ t ∈ L, 0 ≤ t ∧ t < (l.length : Int)) (f : Int → W4) :
 Q22.l1 l i L (Wd (f 0).a) (Wd (f 0).b) (Wd (f 0).c) (Wd (f 0).d) (Wd (f 1).a) (Wd (f 1).b) (Wd (f 1).c) (Wd (f 1).d) (Wd (f 2).a) (Wd (f 2).b) (Wd (f 2).c) (Wd (f 2).d) (Wd (f 3).a) (Wd (f 3).b) (Wd (f 3).c) (Wd (f 3).d) (Wd (f 4).a) (Wd (f 4).b) (Wd (f 4).c) (Wd (f 4).d) (Wd (f 5).a) (Wd (f 5).b) (Wd (f 5).c) (Wd (f 5).d) (Wd (f 6).a) (Wd (f 6).b) (Wd (f 6).c) (Wd (f 6).d) (Wd (f 7).a) (Wd (f 7).b) (Wd (f 7).c) (Wd (f 7).d) 0 = some (.inl (T32 (upd f i (L.foldl (fun u t => putc u (gt l t)) (f i))))) := by
 have upd2 : ∀ (u v : W4), upd (upd f i u) i v = upd f i v := fun u v => by funext j; unfold upd; split <;> rfl
 have updi : ∀ (u : W4), upd f i u i = u := fun u => by unfold upd; rw [if_pos rfl]
 have upds : upd f i (f i) = f := by funext j; unfold upd; split <;> simp_all
 have key : ∀ (q : Nat) (p : Int), 0 ≤ p → (L.length : Int) - p = q → ∀ u : W4, iter (fun t_ : Int × Int × Int × Int × Int × Int × Int × Int × Int × Int × Int × Int × Int × Int × Int × Int × Int × Int × Int × Int × Int × Int × Int × Int × Int × Int × Int × Int × Int × Int × Int × Int × Int => Q22.l1b l i L t_.1 t_.2.1 t_.2.2.1 t_.2.2.2.1 t_.2.2.2.2.1 t_.2.2.2.2.2.1 t_.2.2.2.2.2.2.1 t_.2.2.2.2.2.2.2.1 (d8 t_).1 (d8 t_).2.1 (d8 t_).2.2.1 (d8 t_).2.2.2.1 (d8 t_).2.2.2.2.1 (d8 t_).2.2.2.2.2.1 (d8 t_).2.2.2.2.2.2.1 (d8 t_).2.2.2.2.2.2.2.1 (d8 (d8 t_)).1 (d8 (d8 t_)).2.1 (d8 (d8 t_)).2.2.1 (d8 (d8 t_)).2.2.2.1 (d8 (d8 t_)).2.2.2.2.1 (d8 (d8 t_)).2.2.2.2.2.1 (d8 (d8 t_)).2.2.2.2.2.2.1 (d8 (d8 t_)).2.2.2.2.2.2.2.1 (d8 (d8 (d8 t_))).1 (d8 (d8 (d8 t_))).2.1 (d8 (d8 (d8 t_))).2.2.1 (d8 (d8 (d8 t_))).2.2.2.1 (d8 (d8 (d8 t_))).2.2.2.2.1 (d8 (d8 (d8 t_))).2.2.2.2.2.1 (d8 (d8 (d8 t_))).2.2.2.2.2.2.1 (d8 (d8 (d8 t_))).2.2.2.2.2.2.2.1 (d8 (d8 (d8 (d8 t_))))) (T33 (upd f i u) p) = some (.inl (T32 (upd f i ((L.drop p.toNat).foldl (fun u t => putc u (gt l t)) u)))) := fun q => by
  induction q with
  | zero =>
   intro p p0 pq u
   have hn : ¬ p < (L.length : Int) := by omega
   have hb : Q22.l1b l i L (Wd (upd f i u 0).a) (Wd (upd f i u 0).b) (Wd (upd f i u 0).c) (Wd (upd f i u 0).d) (Wd (upd f i u 1).a) (Wd (upd f i u 1).b) (Wd (upd f i u 1).c) (Wd (upd f i u 1).d) (Wd (upd f i u 2).a) (Wd (upd f i u 2).b) (Wd (upd f i u 2).c) (Wd (upd f i u 2).d) (Wd (upd f i u 3).a) (Wd (upd f i u 3).b) (Wd (upd f i u 3).c) (Wd (upd f i u 3).d) (Wd (upd f i u 4).a) (Wd (upd f i u 4).b) (Wd (upd f i u 4).c) (Wd (upd f i u 4).d) (Wd (upd f i u 5).a) (Wd (upd f i u 5).b) (Wd (upd f i u 5).c) (Wd (upd f i u 5).d) (Wd (upd f i u 6).a) (Wd (upd f i u 6).b) (Wd (upd f i u 6).c) (Wd (upd f i u 6).d) (Wd (upd f i u 7).a) (Wd (upd f i u 7).b) (Wd (upd f i u 7).c) (Wd (upd f i u 7).d) p = some (.inr (.inl (T32 (upd f i u)))) := by
    unfold Q22.l1b
    rw [if_neg hn]
    rfl
   rw [List.drop_of_length_le (by omega)]
   exact Q156 (body := fun t_ : Int × Int × Int × Int × Int × Int × Int × Int × Int × Int × Int × Int × Int × Int × Int × Int × Int × Int × Int × Int × Int × Int × Int × Int × Int × Int × Int × Int × Int × Int × Int × Int × Int => Q22.l1b l i L t_.1 t_.2.1 t_.2.2.1 t_.2.2.2.1 t_.2.2.2.2.1 t_.2.2.2.2.2.1 t_.2.2.2.2.2.2.1 t_.2.2.2.2.2.2.2.1 (d8 t_).1 (d8 t_).2.1 (d8 t_).2.2.1 (d8 t_).2.2.2.1 (d8 t_).2.2.2.2.1 (d8 t_).2.2.2.2.2.1 (d8 t_).2.2.2.2.2.2.1 (d8 t_).2.2.2.2.2.2.2.1 (d8 (d8 t_)).1 (d8 (d8 t_)).2.1 (d8 (d8 t_)).2.2.1 (d8 (d8 t_)).2.2.2.1 (d8 (d8 t_)).2.2.2.2.1 (d8 (d8 t_)).2.2.2.2.2.1 (d8 (d8 t_)).2.2.2.2.2.2.1 (d8 (d8 t_)).2.2.2.2.2.2.2.1 (d8 (d8 (d8 t_))).1 (d8 (d8 (d8 t_))).2.1 (d8 (d8 (d8 t_))).2.2.1 (d8 (d8 (d8 t_))).2.2.2.1 (d8 (d8 (d8 t_))).2.2.2.2.1 (d8 (d8 (d8 t_))).2.2.2.2.2.1 (d8 (d8 (d8 t_))).2.2.2.2.2.2.1 (d8 (d8 (d8 t_))).2.2.2.2.2.2.2.1 (d8 (d8 (d8 (d8 t_))))) hb
  | succ q ih =>
   intro p p0 pq u
   have hp : p < (L.length : Int) := by omega
   have hm := hin _ (Q32 p0 hp)
   have hb := sg_l1b l h0 h1 L (upd f i u) p0 hp hL hm.1 hm.2
   rw [updi, upd2] at hb
   rw [Q150 (body := fun t_ : Int × Int × Int × Int × Int × Int × Int × Int × Int × Int × Int × Int × Int × Int × Int × Int × Int × Int × Int × Int × Int × Int × Int × Int × Int × Int × Int × Int × Int × Int × Int × Int × Int => Q22.l1b l i L t_.1 t_.2.1 t_.2.2.1 t_.2.2.2.1 t_.2.2.2.2.1 t_.2.2.2.2.2.1 t_.2.2.2.2.2.2.1 t_.2.2.2.2.2.2.2.1 (d8 t_).1 (d8 t_).2.1 (d8 t_).2.2.1 (d8 t_).2.2.2.1 (d8 t_).2.2.2.2.1 (d8 t_).2.2.2.2.2.1 (d8 t_).2.2.2.2.2.2.1 (d8 t_).2.2.2.2.2.2.2.1 (d8 (d8 t_)).1 (d8 (d8 t_)).2.1 (d8 (d8 t_)).2.2.1 (d8 (d8 t_)).2.2.2.1 (d8 (d8 t_)).2.2.2.2.1 (d8 (d8 t_)).2.2.2.2.2.1 (d8 (d8 t_)).2.2.2.2.2.2.1 (d8 (d8 t_)).2.2.2.2.2.2.2.1 (d8 (d8 (d8 t_))).1 (d8 (d8 (d8 t_))).2.1 (d8 (d8 (d8 t_))).2.2.1 (d8 (d8 (d8 t_))).2.2.2.1 (d8 (d8 (d8 t_))).2.2.2.2.1 (d8 (d8 (d8 t_))).2.2.2.2.2.1 (d8 (d8 (d8 t_))).2.2.2.2.2.2.1 (d8 (d8 (d8 t_))).2.2.2.2.2.2.2.1 (d8 (d8 (d8 (d8 t_))))) (s := T33 (upd f i u) p) (s' := T33 (upd f i (putc u (gt l (gt L p)))) (p + 1)) hb]
   have := ih (p + 1) (by omega) (by omega) (putc u (gt l (gt L p)))
   have hd : L.drop p.toNat = gt L p :: L.drop (p + 1).toNat := by
    rw [show (p + 1).toNat = p.toNat + 1 from by omega]
    have h2 := List.drop_eq_getElem_cons (l := L) (i := p.toNat) (by omega)
    rw [h2]
    congr 1
    have h3 := Q40 p0 hp
    rw [List.getElem?_eq_getElem (by omega)] at h3
    exact Option.some.inj h3
   rw [hd, List.foldl_cons]
   exact this
 have := key L.length 0 (by decide) (by omega) (f i)
 rw [upds] at this
 exact this
end Go.Bw
