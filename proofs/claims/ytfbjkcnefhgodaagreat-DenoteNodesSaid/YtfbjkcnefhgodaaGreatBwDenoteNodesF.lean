/- DenoteNodes, part 6: walks and plain laws. Conditions: none. -/
import Derived.Test.YtfbjkcnefhgodaaGreatProg
import Derived.Deep.QuietTactic
import Derived.Test.YtfbjkcnefhgodaaGreatBwDenoteNodesE
set_option linter.unusedVariables false
set_option linter.unusedSimpArgs false
set_option linter.unusedSectionVars false
set_option maxRecDepth 100000
set_option maxHeartbeats 2000000
namespace Go.Bw
open Go Go.RowKit Go.Proofs
variable {R : Res} {Fr : List HProp} {b0 b0_1 b0_2 n1 c1 : Nat} {A1 : Option Addr}
noncomputable def Q42.l0b (G : Int) (I : List (Bs × Q0)) (J : List (Q8 × Q0)) (a1 : List Q2) (q : (List Int) × Int × Int × Int × Int) (u D : List Q0) (p : Int) : Option (((List Q0) × (List Q0) × Int) ⊕ (((List Q0) × (List Q0)) ⊕ ((List Q0) × Int))) :=
 if 0 ≤ p then
 jn (
 if (0 : Int) ≤ p ∧ p < (a1.length : Int) then
 if (gt a1 p).Kind = 4 then
 if (0 : Int) ≤ p ∧ p < (q.1.length : Int) then
 if (0 : Int) ≤ gt q.1 p ∧ gt q.1 p < ((List.replicate (a1.length : Int).toNat ((⟨0, 0, 0, 0⟩ : Q0) : Q0)).length : Int) then
 if (0 : Int) ≤ p ∧ p < ((List.replicate (a1.length : Int).toNat ((⟨0, 0, 0, 0⟩ : Q0) : Q0)).length : Int) then
 some (.inl ((st u p (⟨(gt u (gt q.1 p)).c0, (gt u (gt q.1 p)).c1, (gt u (gt q.1 p)).c2, (gt u (gt q.1 p)).c3⟩ : Q0)), D))
 else none
 else none
 else none
 else
 (Q11.f G I J a1 q.1 q.2.1 q.2.2.1 q.2.2.2.1 q.2.2.2.2 (u.take ((List.replicate (a1.length : Int).toNat ((⟨0, 0, 0, 0⟩ : Q0) : Q0)).length) ++ D.drop ((List.replicate (a1.length : Int).toNat ((⟨0, 0, 0, 0⟩ : Q0) : Q0)).length)) p).bind fun x =>
 if (0 : Int) ≤ p ∧ p < ((List.replicate (a1.length : Int).toNat ((⟨0, 0, 0, 0⟩ : Q0) : Q0)).length : Int) then
 some (.inl ((st u p (⟨x.2.1, x.2.2.1, x.2.2.2.1, x.2.2.2.2⟩ : Q0)), x.1))
 else none
 else none) (fun (s_ : (List Q0) × (List Q0)) =>
 nx (s_.1, s_.2, IntKind.i64.wrap (p - 1)))
 else
 dn (.inl (u, D))
noncomputable def Q42.l0 (p : Int) (q : List (Bs × Q0)) (u : List (Q8 × Q0)) (a1 : List Q2) (x : (List Int) × Int × Int × Int × Int) (D G : List Q0) (I : Int) : Option (((List Q0) × (List Q0)) ⊕ ((List Q0) × Int)) := iter (fun t_ : (List Q0) × (List Q0) × Int => Q42.l0b p q u a1 x t_.1 t_.2.1 t_.2.2) (D, G, I)
noncomputable def Q42.f (q : Int) (u : List (Bs × Q0)) (x : List (Q8 × Q0)) (a1 : List Q2) : Option ((List Q0) × Int) :=
 (Q30.f q u x a1).bind fun p =>
  match p with
  | .inl p =>
   some (([] : List Q0), 1)
  | .inr p =>
   if (0 : Int) ≤ (a1.length : Int) ∧ (32 : Int) * (a1.length : Int) ≤ 281474976710656 then
    jn (Q42.l0 q u x a1 p (List.replicate (a1.length : Int).toNat ((⟨0, 0, 0, 0⟩ : Q0) : Q0)) (List.replicate (a1.length : Int).toNat ((⟨0, 0, 0, 0⟩ : Q0) : Q0)) (IntKind.i64.wrap ((a1.length : Int) - 1))) (fun (s_ : (List Q0) × (List Q0)) =>
     some (s_.1, 0))
   else none
theorem Q42.callee : Callee Tryz.prog 15 := ⟨_, Tryz.func15, by kernel_rfl, by kernel_rfl⟩
theorem Q42.spec {J : Int} {L : List (Bs × Q0)} {M : List (Q8 × Q0)} {a1 : List Q2} (hr1 : RdS Q2.fl.rep R.heap A1 a1) (hn1 : a1.length = n1) (hc1 : n1 ≤ c1) {r : (List Q0) × Int} (j : Q42.f J L M a1 = some r) :
 Spec Tryz.prog 15 [bp b0, .slice A1 n1 c1] R (pc b0 [i6 J, .map (some b0_1), .map (some b0_2)] 72 :: mapo Fl.bs.ov Q0.fl.av b0_1 L :: mapo Q8.fl.av Q0.fl.av b0_2 M :: Fr) (fun v l' => ∃ (a5 : Nat) (b5 : Option Addr) (b6 : Nat), v = .tuple #[.slice b5 a5 b6, i6 r.2] ∧ row Q0.fl 38 b5 a5 b6 r.1 :: pc b0 [i6 J, .map (some b0_1), .map (some b0_2)] 72 :: mapo Fl.bs.ov Q0.fl.av b0_1 L :: mapo Q8.fl.av Q0.fl.av b0_2 M :: Fr = l' ∧ r.1.length = a5) := by
 subst hn1; refine Spec.of Tryz.func15 rfl rfl ?_; unfold Q42.f at j; have j := brun j; refine sR 2 rfl (nT (sR 2 rfl ?_)); obtain ⟨p, c7, j⟩ := bbind j; refine At.call rfl Q30.callee rfl rfl rfl (Q30.spec hr1 rfl hc1 c7) ?_; rcases p with p | p
 ·rintro _ _ ⟨rfl, rfl⟩; refine At.run 5 rfl (nT (At.seq (sR 2 rfl (At.nil ?_)))); refine At.thn ?_; refine At.condT rfl rfl ?_; refine sR 3 rfl (nT (At.ret (At.thr ?_))); refine At.nilRow Q0.fl 38 ?_; cases bret j; exact At.res (.inl rfl) rfl rfl ⟨0, none, 0, rfl, rfl, rfl⟩
 ·rintro _ _ ⟨a6, V, Z, e4, b7, b8, rfl, rfl, rfl⟩; refine At.run 5 rfl (nT (At.seq (sR 2 rfl (At.nil ?_)))); refine At.thn ?_; refine At.condF rfl rfl ?_; refine At.skip (At.thn (sR 2 rfl ?_)); obtain ⟨b9, j⟩ := bnone j; refine At.makeW (F := Q0.fl) (z := (⟨0, 0, 0, 0⟩ : Q0)) rfl rfl rfl rfl rfl rfl rfl rfl rfl b9.1 b9.2 (by decide) rfl (fun G I => ?_); refine At.run 1 rfl (nT (At.seq (sR 4 rfl (At.nil ?_)))); refine At.thn ?_; refine At.block ?_; obtain ⟨c8, c9, e5, j⟩ := bjoin j; obtain ⟨a7, a8, d0⟩ := bsome j; clear j; unfold Q42.l0 at a8; obtain ⟨a9, U⟩ := Q17.1 a8; clear a8; let T1 : HProp := pc a6 [bp b0, .slice A1 a1.length c1, .slice b7 p.1.length b8, .int .u64 p.2.1, .int .u64 p.2.2.1, .int .u64 p.2.2.2.1, .int .u64 p.2.2.2.2, .slice V ((List.replicate (a1.length : Int).toNat ((⟨0, 0, 0, 0⟩ : Q0) : Q0)).length) Z] 88; let T2 : HProp := row (Fl.int .i64) 3 b7 p.1.length b8 p.1; let T3 : HProp := pc b0 [i6 J, .map (some b0_1), .map (some b0_2)] 72; let T4 : HProp := mapo Fl.bs.ov Q0.fl.av b0_1 L; let T5 : HProp := mapo Q8.fl.av Q0.fl.av b0_2 M; refine At.loopJ (X := (List Q0) × (List Q0) × Int) (Y := (List Q0) × (List Q0)) (e0 := 0) (fun s_ => [(1, .slice A1 a1.length c1), (6, bp a6), (8, .slice G ((List.replicate (a1.length : Int).toNat ((⟨0, 0, 0, 0⟩ : Q0) : Q0)).length) I), (9, i6 s_.2.2)]) (fun s_ => row Q0.fl 38 G ((List.replicate (a1.length : Int).toNat ((⟨0, 0, 0, 0⟩ : Q0) : Q0)).length) I s_.1 :: T1 :: T2 :: row Q0.fl 38 V ((List.replicate (a1.length : Int).toNat ((⟨0, 0, 0, 0⟩ : Q0) : Q0)).length) Z s_.2.1 :: T3 :: T4 :: T5 :: Fr) (fun m_ => fun s_ => iterN (fun t_ : (List Q0) × (List Q0) × Int => Q42.l0b J L M a1 p t_.1 t_.2.1 t_.2.2) m_ (s_.1, s_.2.1, s_.2.2) = some a7) a9 ((List.replicate (a1.length : Int).toNat ((⟨0, 0, 0, 0⟩ : Q0) : Q0)), (List.replicate (a1.length : Int).toNat ((⟨0, 0, 0, 0⟩ : Q0) : Q0)), IntKind.i64.wrap ((a1.length : Int) - 1)) U (fun s_ => [(8, .slice G ((List.replicate (a1.length : Int).toNat ((⟨0, 0, 0, 0⟩ : Q0) : Q0)).length) I)]) (fun s_ => row Q0.fl 38 G ((List.replicate (a1.length : Int).toNat ((⟨0, 0, 0, 0⟩ : Q0) : Q0)).length) I s_.1 :: T1 :: T2 :: row Q0.fl 38 V ((List.replicate (a1.length : Int).toNat ((⟨0, 0, 0, 0⟩ : Q0) : Q0)).length) Z s_.2 :: T3 :: T4 :: T5 :: Fr) (fun s_ => c8 (.inl (s_.1, s_.2)) = some r) (fun a w e hs => ⟨e.sub ⟨rfl, rfl, rfl, rfl, trivial⟩, (by exact hs)⟩) ?_ (fun d1 => ?_)
  ·rintro ⟨e6, e7⟩ j; have j := (c9 _).symm.trans j
   ·refine At.ibx ?_; refine At.thn (sR 3 rfl (nT (At.ret ?_))); refine At.rowLen .z fun d2 => ?_; refine At.drop (.s .z) (At.drop (.s .z) (At.drop (.s .z) ?_)); cases bret j; exact At.res (.inl rfl) rfl rfl ⟨(List.replicate (a1.length : Int).toNat ((⟨0, 0, 0, 0⟩ : Q0) : Q0)).length, G, I, rfl, rfl, d2⟩
  ·clear U a9; rintro a9 ⟨x, b2, u⟩ U; obtain ⟨d3, f_, d4, hf_, j⟩ := bit U; clear U; have j : (Q42.l0b J L M a1 p x b2 u).bind _ = some a7 := j; unfold Q42.l0b at j
   ·refine At.seq (sR 2 rfl (nT ?_)); rcases bite j with ⟨b3, j⟩ | ⟨b3, j⟩
    ··refine At.condT rfl (decide_eq_true b3) ?_
      refine At.skip (At.thn (At.seq ?_)); obtain ⟨d5, d6, e8, j⟩ := bjoin j; refine At.join (X := (List Q0) × (List Q0)) (fun s_ => [(1, .slice A1 a1.length c1), (6, bp a6), (8, .slice G ((List.replicate (a1.length : Int).toNat ((⟨0, 0, 0, 0⟩ : Q0) : Q0)).length) I), (9, i6 u)]) (fun s_ => row Q0.fl 38 G ((List.replicate (a1.length : Int).toNat ((⟨0, 0, 0, 0⟩ : Q0) : Q0)).length) I s_.1 :: T1 :: T2 :: row Q0.fl 38 V ((List.replicate (a1.length : Int).toNat ((⟨0, 0, 0, 0⟩ : Q0) : Q0)).length) Z s_.2 :: T3 :: T4 :: T5 :: Fr) (fun s_ => d5 (.inl (s_.1, s_.2)) = some a7) ?_ (fun c4 => ?_)
      ·rintro ⟨d7, d8⟩ j; have j := (d6 _).symm.trans j
       ·refine At.region (At.run 3 rfl (At.nil ?_)); have j := bnx hf_ j; exact fun a w e hs => ⟨d3, (d7, d8, IntKind.i64.wrap (u - 1)), d4, j, e.sub ⟨rfl, rfl, rfl, rfl, trivial⟩, hs⟩
      ··refine At.block ?_
        refine At.seq (sR 2 rfl ?_); obtain ⟨O, j⟩ := bnone j; refine At.y (Y.ixRd hr1 rfl rfl rfl rfl rfl rfl rfl O.1 O.2) rfl rfl rfl ?_; refine At.y (Y.fa (RdS.some_ hr1 rfl O.1 O.2) rfl rfl rfl rfl rfl rfl) rfl rfl rfl ?_; refine At.y (Y.ldFl hr1 rfl (q := 0) rfl rfl O.1 O.2 rfl rfl rfl) rfl rfl rfl (At.run 1 rfl (nT (sR 2 rfl (At.nil ?_)))); refine At.thn ?_; rcases bite j with ⟨b4, j⟩ | ⟨b4, j⟩
        ··refine At.condT rfl (decide_eq_true b4) ?_
          refine sR 6 rfl (At.y (Y.load rfl rfl (.s .z) rfl rfl rfl) rfl rfl rfl (At.run 1 rfl ?_)); obtain ⟨a0, j⟩ := bnone j; refine At.y (Y.ix (.s (.s .z)) rfl rfl rfl rfl rfl rfl a0.1 a0.2) rfl rfl rfl (At.y (Y.ld (.s (.s .z)) (q := 0) rfl rfl a0.1 a0.2 rfl rfl rfl) rfl rfl rfl ?_); obtain ⟨a2, j⟩ := bnone j; refine At.y (Y.ix .z rfl rfl rfl rfl rfl rfl a2.1 a2.2) rfl rfl rfl (At.y (Y.ld .z (q := 0) rfl rfl a2.1 a2.2 rfl rfl rfl) rfl rfl rfl ?_); obtain ⟨a3, j⟩ := bnone j; refine At.y (Y.ix .z rfl rfl rfl rfl rfl rfl a3.1 a3.2) rfl rfl rfl ?_; refine At.st rfl .z (q := 0) (z := (⟨(gt x (gt p.1 u)).c0, (gt x (gt p.1 u)).c1, (gt x (gt p.1 u)).c2, (gt x (gt p.1 u)).c3⟩ : Q0)) rfl rfl rfl a3.1 a3.2 rfl rfl (.c (.c (.c (.c .n)))) ?_; refine nT ?_; refine At.exit ?_; refine At.the ?_; refine At.ibx ?_; refine At.thn ?_; exact fun a w e hs => c4 ((st x u (⟨(gt x (gt p.1 u)).c0, (gt x (gt p.1 u)).c1, (gt x (gt p.1 u)).c2, (gt x (gt p.1 u)).c3⟩ : Q0)), b2) j a w (e.sub ⟨rfl, rfl, rfl, rfl, trivial⟩) hs
        ··refine At.condF rfl (decide_eq_false b4) ?_
          refine At.skip (At.thn (sR 3 rfl (At.y (Y.load rfl rfl (.s .z) rfl rfl rfl) rfl rfl rfl (At.run 1 rfl ?_)))); refine At.freeze .z fun e9 c5 c6 f0 d9 e1 => ?_; refine At.copyRdW rfl (.s (.s .z)) c5 c6 rfl rfl rfl rfl rfl rfl rfl ?_; refine nT (At.region (At.run 4 rfl ?_)); refine At.rowLen .z fun e2 => ?_; refine At.f2 (At.f5 (At.f5 (At.f5 (At.f5 ?_)))); obtain ⟨D, e3, j⟩ := bbind j; refine At.call rfl Q11.callee rfl rfl rfl (Q11.spec (RdS.mono d9 hr1) rfl hc1 rfl e2 e3) ?_; rintro _ _ ⟨rfl, rfl⟩; obtain ⟨a4, j⟩ := bnone j; refine At.y (Y.ixRd c5 c6 rfl rfl rfl rfl rfl rfl a4.1 a4.2) rfl rfl rfl ?_; refine At.thaw e1 ?_; refine At.st rfl .z (q := 0) (z := (⟨D.2.1, D.2.2.1, D.2.2.2.1, D.2.2.2.2⟩ : Q0)) rfl rfl rfl a4.1 a4.2 rfl rfl (.c (.c (.c (.c .n)))) ?_; refine At.nil ?_; refine At.ibn ?_; refine At.thn (At.f4 (At.f4 (At.f4 (At.f6 (At.f6 (At.f6 (At.f6 ?_))))))); exact fun a w e hs => c4 ((st x u (⟨D.2.1, D.2.2.1, D.2.2.2.1, D.2.2.2.2⟩ : Q0)), D.1) j a w (e.sub ⟨rfl, rfl, rfl, rfl, trivial⟩) hs
    ··refine At.condF rfl (decide_eq_false b3) ?_
      refine At.exit ?_; refine At.the ?_; refine At.the ?_; exact fun a w e hs => d1 (x, b2) (bdn j d0) a w (e.sub ⟨rfl, trivial⟩) hs

noncomputable def Q64.l0b (a1 : List Q2) (x : (Option Q43)) (q : (List Q0) × Int) (u : Int × Int × Int × Int) (p : Int) : Option ((Int) ⊕ ((Unit) ⊕ (Bool))) :=
 if p < (a1.length : Int) then
 if (0 : Int) ≤ p ∧ p < (a1.length : Int) then
 if (0 : Int) ≤ p ∧ p < (q.1.length : Int) then
 jn (
 if (gt a1 p).Kind = 1 then
 some (.inl (u.1, u.2.1, u.2.2.1, u.2.2.2))
 else
 if (gt a1 p).Kind = 2 then
 some (.inl (0, 0, 0, 0))
 else
 if (gt a1 p).Kind = 3 then
 (Q51.f ((x.getD default).states) ((x.getD default).holds) ((x.getD default).next) ((gt a1 p).Name)).bind fun D =>
 some (.inl (D.1, D.2.1, D.2.2.1, D.2.2.2))
 else
 if (gt a1 p).Kind = 12 then
 (Q51.f ((x.getD default).states) ((x.getD default).holds) ((x.getD default).next) ((gt a1 p).Name)).bind fun G =>
 (Q33.f u.1 u.2.1 u.2.2.1 u.2.2.2 G.1 G.2.1 G.2.2.1 G.2.2.2).bind fun I =>
 some (.inl (I.1, I.2.1, I.2.2.1, I.2.2.2))
 else
 if (gt a1 p).Kind = 5 then
 if (0 : Int) ≤ (gt a1 p).A ∧ (gt a1 p).A < (q.1.length : Int) then
 (Q33.f u.1 u.2.1 u.2.2.1 u.2.2.2 ((gt q.1 ((gt a1 p).A)).c0) ((gt q.1 ((gt a1 p).A)).c1) ((gt q.1 ((gt a1 p).A)).c2) ((gt q.1 ((gt a1 p).A)).c3)).bind fun J =>
 some (.inl (J.1, J.2.1, J.2.2.1, J.2.2.2))
 else none
 else
 if (gt a1 p).Kind = 6 then
 if (0 : Int) ≤ (gt a1 p).A ∧ (gt a1 p).A < (q.1.length : Int) then
 if (0 : Int) ≤ (gt a1 p).B ∧ (gt a1 p).B < (q.1.length : Int) then
 (Q69.f ((gt q.1 ((gt a1 p).A)).c0) ((gt q.1 ((gt a1 p).A)).c1) ((gt q.1 ((gt a1 p).A)).c2) ((gt q.1 ((gt a1 p).A)).c3) ((gt q.1 ((gt a1 p).B)).c0) ((gt q.1 ((gt a1 p).B)).c1) ((gt q.1 ((gt a1 p).B)).c2) ((gt q.1 ((gt a1 p).B)).c3)).bind fun L =>
 some (.inl (L.1, L.2.1, L.2.2.1, L.2.2.2))
 else none
 else none
 else
 if (gt a1 p).Kind = 7 then
 if (0 : Int) ≤ (gt a1 p).A ∧ (gt a1 p).A < (q.1.length : Int) then
 if (0 : Int) ≤ (gt a1 p).B ∧ (gt a1 p).B < (q.1.length : Int) then
 (Q97.f ((gt q.1 ((gt a1 p).A)).c0) ((gt q.1 ((gt a1 p).A)).c1) ((gt q.1 ((gt a1 p).A)).c2) ((gt q.1 ((gt a1 p).A)).c3) ((gt q.1 ((gt a1 p).B)).c0) ((gt q.1 ((gt a1 p).B)).c1) ((gt q.1 ((gt a1 p).B)).c2) ((gt q.1 ((gt a1 p).B)).c3)).bind fun M =>
 some (.inl (M.1, M.2.1, M.2.2.1, M.2.2.2))
 else none
 else none
 else
 if (gt a1 p).Kind = 8 then
 if (0 : Int) ≤ (gt a1 p).A ∧ (gt a1 p).A < (q.1.length : Int) then
 (Q25.f ((x.getD default).states) ((x.getD default).holds) ((x.getD default).next) ((gt q.1 ((gt a1 p).A)).c0) ((gt q.1 ((gt a1 p).A)).c1) ((gt q.1 ((gt a1 p).A)).c2) ((gt q.1 ((gt a1 p).A)).c3) ((gt a1 p).Name)).bind fun O =>
 some (.inl (O.1, O.2.1, O.2.2.1, O.2.2.2))
 else none
 else
 if (gt a1 p).Kind = 9 then
 if (0 : Int) ≤ (gt a1 p).A ∧ (gt a1 p).A < (q.1.length : Int) then
 (Q33.f u.1 u.2.1 u.2.2.1 u.2.2.2 ((gt q.1 ((gt a1 p).A)).c0) ((gt q.1 ((gt a1 p).A)).c1) ((gt q.1 ((gt a1 p).A)).c2) ((gt q.1 ((gt a1 p).A)).c3)).bind fun U =>
 (Q25.f ((x.getD default).states) ((x.getD default).holds) ((x.getD default).next) U.1 U.2.1 U.2.2.1 U.2.2.2 ((gt a1 p).Name)).bind fun V =>
 (Q33.f u.1 u.2.1 u.2.2.1 u.2.2.2 V.1 V.2.1 V.2.2.1 V.2.2.2).bind fun X =>
 some (.inl (X.1, X.2.1, X.2.2.1, X.2.2.2))
 else none
 else
 jn (
 if (gt a1 p).Kind = 10 then
 some (.inl (decide ((gt a1 p).Kind = 10)))
 else
 some (.inl (decide ((gt a1 p).Kind = 11)))) (fun (Z : Bool) =>
 if Z = true then
 if (0 : Int) ≤ (gt a1 p).A ∧ (gt a1 p).A < (q.1.length : Int) then
 some (.inl ((gt q.1 ((gt a1 p).A)).c0, (gt q.1 ((gt a1 p).A)).c1, (gt q.1 ((gt a1 p).A)).c2, (gt q.1 ((gt a1 p).A)).c3))
 else none
 else
 some (.inl ((gt q.1 p).c0, (gt q.1 p).c1, (gt q.1 p).c2, (gt q.1 p).c3)))) (fun (s_ : Int × Int × Int × Int) =>
 jn (
 if (decide ((gt q.1 p).c0 = s_.1) && (decide ((gt q.1 p).c1 = s_.2.1) && (decide ((gt q.1 p).c2 = s_.2.2.1) && (decide ((gt q.1 p).c3 = s_.2.2.2) && true)))) = true then
 (Q113.f ((gt q.1 p).c0) ((gt q.1 p).c1) ((gt q.1 p).c2) ((gt q.1 p).c3) u.1 u.2.1 u.2.2.1 u.2.2.2).bind fun a0 =>
 some (.inl (!a0))
 else
 some (.inl true)) (fun (a2 : Bool) =>
 if a2 = true then
 upL (some false)
 else
 nx (IntKind.i64.wrap (p + 1))))
 else none
 else none
 else
 dn (.inl ())
noncomputable def Q64.l0 (a1 : List Q2) (p : (Option Q43)) (q : (List Q0) × Int) (u : Int × Int × Int × Int) (x : Int) : Option ((Unit) ⊕ (Bool)) := iter (fun t_ : Int => Q64.l0b a1 p q u t_) x
noncomputable def Q64.f (x : Int) (G : List Bs) (I : List Q3) (J : List Q4) (a1 : List Q2) : Option Bool :=
 (Q77.f ).bind fun D =>
 (Q15.f x G I J).bind fun q =>
 jn (
 if D = true then
 some (.inl q.isNone)
 else
 some (.inl true)) (fun (L : Bool) =>
 if L = true then
 some D
 else
 if q.isNone = false then
 (Q42.f ((q.getD default).states) ((q.getD default).holds) ((q.getD default).next) a1).bind fun p =>
 if p.2 = 0 then
 (Q78.f ((q.getD default).states) ((q.getD default).holds) ((q.getD default).next) a1).bind fun u =>
 jn (
 if (p.1.length : Int) = (a1.length : Int) then
 if (0 : Int) ≤ IntKind.i64.wrap ((p.1.length : Int) - 1) ∧ IntKind.i64.wrap ((p.1.length : Int) - 1) < (p.1.length : Int) then
 some (.inl (!(decide ((gt p.1 (IntKind.i64.wrap ((p.1.length : Int) - 1))).c0 = u.2.1) && (decide ((gt p.1 (IntKind.i64.wrap ((p.1.length : Int) - 1))).c1 = u.2.2.1) && (decide ((gt p.1 (IntKind.i64.wrap ((p.1.length : Int) - 1))).c2 = u.2.2.2.1) && (decide ((gt p.1 (IntKind.i64.wrap ((p.1.length : Int) - 1))).c3 = u.2.2.2.2) && true))))))
 else none
 else
 some (.inl true)) (fun (M : Bool) =>
 if M = true then
 some false
 else
 (Q67.f x).bind fun O =>
 jn (Q64.l0 a1 q p O 0) (fun (_ : Unit) =>
 some true))
 else
 some (decide ((p.1.length : Int) = 0))
 else none)
theorem Q64.spec (R : Res) (Fr : List HProp) (A0_1 : Option Addr) (n0_1 : Nat) (c0_1 : Nat) (A0_2 : Option Addr) (n0_2 : Nat) (c0_2 : Nat) (A0_3 : Option Addr) (n0_3 : Nat) (c0_3 : Nat) (A1 : Option Addr) (n1 : Nat) (c1 : Nat) (b7 : Int) (a4 : List Bs) (a5 : List Q3) (a6 : List Q4) (a1 : List Q2) (hr0_1 : RdS Fl.bs.rep R.heap A0_1 a4) (hn0_1 : a4.length = n0_1) (hc0_1 : n0_1 ≤ c0_1) (hr0_2 : RdS Q3.fl.rep R.heap A0_2 a5) (hn0_2 : a5.length = n0_2) (hc0_2 : n0_2 ≤ c0_2) (hr0_3 : RdS Q4.rep R.heap A0_3 a6) (hn0_3 : a6.length = n0_3) (hc0_3 : n0_3 ≤ c0_3) (hr1 : RdS Q2.fl.rep R.heap A1 a1) (hn1 : a1.length = n1) (hc1 : n1 ≤ c1) {r : Bool} (j : Q64.f b7 a4 a5 a6 a1 = some r) :
 Spec Tryz.prog 5 [.agg #[i6 b7, .slice A0_1 n0_1 c0_1, .slice A0_2 n0_2 c0_2, .slice A0_3 n0_3 c0_3], .slice A1 n1 c1] R (Fr) (fun v l' => v = .bool r ∧ Fr = l') := by
 subst hn0_1; subst hn0_2; subst hn0_3; subst hn1; refine Spec.of Tryz.func5 rfl rfl ?_; unfold Q64.f at j; have j := brun j; refine At.seq (At.region ?_); refine At.box rfl rfl (cs := [i6 b7, .slice A0_1 a4.length c0_1, .slice A0_2 a5.length c0_2, .slice A0_3 a6.length c0_3]) rfl rfl (fun d9 => ?_); refine At.run 1 rfl (nT (At.seq (At.region ?_))); obtain ⟨k1, k2, j⟩ := bbind j; refine At.call rfl Q77.callee rfl rfl rfl (Q77.spec k2) ?_; rintro _ _ ⟨rfl, rfl⟩; refine At.run 1 rfl (nT (At.seq (At.region (At.y (Y.load rfl rfl .z rfl rfl rfl) rfl rfl rfl ?_)))); obtain ⟨D, k3, j⟩ := bbind j; refine At.call rfl Q15.callee rfl rfl rfl (Q15.spec hr0_1 rfl hc0_1 hr0_2 rfl hc0_2 hr0_3 rfl hc0_3 k3) ?_; rintro _ _ ⟨g8, rfl, rfl⟩; refine At.run 1 rfl (nT (At.seq (sR 3 rfl ?_))); obtain ⟨k4, k5, p3, j⟩ := bjoin j; let T6 : HProp := pc d9 [i6 b7, .slice A0_1 a4.length c0_1, .slice A0_2 a5.length c0_2, .slice A0_3 a6.length c0_3] 26; refine At.joinO 3 (X := Bool) (fun a7 => [(1, .slice A1 a1.length c1), (2, bp d9), (5, .bool k1), (6, optp g8), (23, .bool a7)]) (fun a7 => optb Q43.ow 72 g8 D :: T6 :: Fr) (fun a7 => k4 (.inl a7) = some r) ?_ (fun g9 => ?_)
 ·rintro a7 j; have j := (k5 _).symm.trans j
  ·refine nT ?_; rcases bite j with ⟨e1, j⟩ | ⟨e1, j⟩
   ··refine At.condT rfl e1 ?_
     refine sR 2 rfl (nT (At.ret (At.thr (At.drop .z ?_)))); refine At.drop .z ?_; cases bret j; exact At.res (.inl rfl) rfl rfl ⟨rfl, rfl⟩
   ··refine At.condF rfl (bn e1) ?_
     refine At.skip (At.thn (sR 2 rfl ?_)); obtain ⟨k6, j⟩ := bnone j; refine At.optOpen .z k6 (fun a3 k7 p4 => ?_); have k8 := j; subst k7; have j := k8; refine At.ownPair (T := Ow.fl (Fl.int .i64)) (U := ((Ow.mp Fl.bs.ov Q0.fl.av).pair (Ow.mp Q8.fl.av Q0.fl.av))) (x := ((D.getD default).states, (D.getD default).holds, (D.getD default).next)) (.s .z) ?_; rintro p5 p6 rfl; refine At.ownFl (F := (Fl.int .i64)) (x := (D.getD default).states) .z ?_; rintro rfl; refine At.ownPair (T := Ow.mp Fl.bs.ov Q0.fl.av) (U := (Ow.mp Q8.fl.av Q0.fl.av)) (x := ((D.getD default).holds, (D.getD default).next)) .z ?_; rintro p7 p8 rfl; refine At.ownMp (kv := Fl.bs.ov) (vv := Q0.fl.av) (kvs := (D.getD default).holds) .z ?_; rintro h0 rfl; refine At.ownMp (kv := Q8.fl.av) (vv := Q0.fl.av) (kvs := (D.getD default).next) (.s .z) ?_; rintro h1 rfl; refine At.f1 (At.f2 ?_); obtain ⟨p, k9, j⟩ := bbind j; refine At.call rfl Q42.callee rfl rfl rfl (Q42.spec hr1 rfl hc1 k9) ?_; rintro _ _ ⟨p9, a0, a2, rfl, rfl, rfl⟩; refine At.run 5 rfl (nT (At.seq (sR 2 rfl (At.nil ?_)))); refine At.thn ?_; rcases bite j with ⟨e2, j⟩ | ⟨e2, j⟩
     ··refine At.condF rfl (nf (decide_eq_true e2)) ?_
       refine At.skip (At.thn (sR 2 rfl (At.f3 (At.f3 (At.f3 ?_))))); obtain ⟨G, l4, j⟩ := bbind j; refine At.call rfl Q78.callee rfl rfl rfl (Q78.spec hr1 rfl hc1 l4) ?_; rintro _ _ ⟨rfl, rfl⟩; refine At.run 3 rfl ?_; refine At.alloc rfl rfl rfl (fun l5 => ?_); refine At.store rfl rfl rfl rfl .z rfl rfl rfl (.c (.c (.c (.c .n)))) ?_; refine At.run 1 rfl (nT (At.seq (At.seq ?_))); refine At.quiet (by kernel_rfl) ?_; refine At.Quiet.run 6 rfl ?_; obtain ⟨l6, l7, q0, j⟩ := bjoin j; let T7 : HProp := pc l5 [.int .u64 G.2.1, .int .u64 G.2.2.1, .int .u64 G.2.2.2.1, .int .u64 G.2.2.2.2] 38; let T8 : HProp := pc a3 [i6 ((D.getD default).states), .map (some h0), .map (some h1)] 72; let T9 : HProp := mapo Fl.bs.ov Q0.fl.av h0 ((D.getD default).holds); let I : HProp := mapo Q8.fl.av Q0.fl.av h1 ((D.getD default).next); refine At.Quiet.joinO 9 (X := Bool) (fun a8 => [(1, .slice A1 a1.length c1), (2, bp d9), (6, bp a3), (7, .slice a0 p.1.length a2), (56, .bool a8)]) (fun a8 => T7 :: T8 :: T9 :: I :: row Q0.fl 38 a0 p.1.length a2 p.1 :: T6 :: Fr) (fun a8 => l6 (.inl a8) = some r) ?_ (fun h2 => ?_)
       ·rintro a8 j; have j := (l7 _).symm.trans j
        ·refine At.Quiet.nil (At.thn ?_); rcases bite j with ⟨e3, j⟩ | ⟨e3, j⟩
         ··refine At.condT rfl e3 ?_
           refine sR 1 rfl (nT (At.ret (At.thr (At.drop .z ?_)))); refine At.drop .z (At.drop .z (At.drop .z (At.drop .z (At.drop .z ?_)))); cases bret j; exact At.res (.inl rfl) rfl rfl ⟨rfl, rfl⟩
         ··refine At.condF rfl (bn e3) ?_
           refine At.skip (At.thn (sR 1 rfl ?_)); refine At.y (Y.load rfl rfl (.s (.s (.s (.s (.s .z))))) rfl rfl rfl) rfl rfl rfl ?_; obtain ⟨V, l8, j⟩ := bbind j; refine At.call rfl Q67.callee rfl rfl rfl (Q67.spec l8) ?_; rintro _ _ ⟨rfl, rfl⟩; refine At.alloc rfl rfl rfl (fun a9 => ?_); refine At.store rfl rfl rfl rfl .z rfl rfl rfl (.c (.c (.c (.c .n)))) ?_; refine nT (At.seq (sR 1 rfl (nT ?_))); refine At.block ?_; obtain ⟨l9, m0, m1, j⟩ := bjoin j; obtain ⟨b2, e4, h3⟩ := bsome j; clear j; unfold Q64.l0 at e4; obtain ⟨e5, b3⟩ := Q17.1 e4; clear e4; let L : HProp := pc a9 [.int .u64 V.1, .int .u64 V.2.1, .int .u64 V.2.2.1, .int .u64 V.2.2.2] 38; let M : HProp := row Q0.fl 38 a0 p.1.length a2 p.1; refine At.loopJ (X := Int) (Y := Unit) (e0 := 0) (fun u => [(1, .slice A1 a1.length c1), (6, bp a3), (7, .slice a0 p.1.length a2), (11, bp a9), (12, i6 u)]) (fun u => L :: T7 :: T8 :: T9 :: I :: M :: T6 :: Fr) (fun m_ => fun u => iterN (fun t_ : Int => Q64.l0b a1 D p V t_) m_ u = some b2) e5 0 b3 (fun _ => []) (fun _ => L :: T7 :: T8 :: T9 :: I :: M :: T6 :: Fr) (fun _ => l9 (.inl ()) = some r) (fun a w e hs => ⟨e.sub ⟨rfl, rfl, rfl, rfl, rfl, trivial⟩, (by exact hs)⟩) ?_ (fun m2 => ?_)
           ·rintro _ j; have j := (m0 _).symm.trans j
            ·refine At.ibx ?_; refine At.thn (sR 1 rfl (nT (At.ret (At.drop .z ?_)))); refine At.drop .z (At.drop .z (At.drop .z (At.drop .z (At.drop .z (At.drop .z ?_))))); cases bret j; exact At.res (.inl rfl) rfl rfl ⟨rfl, rfl⟩
           ·clear b3 e5; rintro e5 u b3; obtain ⟨m3, f_, m4, hf_, j⟩ := bit b3; clear b3; have j : (Q64.l0b a1 D p V u).bind _ = some b2 := j; unfold Q64.l0b at j
            ·refine At.seq (sR 4 rfl (nT ?_)); rcases bite j with ⟨e6, j⟩ | ⟨e6, j⟩
             ··refine At.condT rfl (decide_eq_true e6) ?_
               refine At.skip (At.thn (At.seq ?_)); refine At.block ?_; refine sR 2 rfl ?_; obtain ⟨b8, j⟩ := bnone j; refine At.y (Y.ixRd hr1 rfl rfl rfl rfl rfl rfl rfl b8.1 b8.2) rfl rfl rfl (At.y (Y.ldFl hr1 rfl (q := 0) rfl rfl b8.1 b8.2 rfl rfl rfl) rfl rfl rfl ?_); refine At.alloc rfl rfl rfl (fun h4 => ?_); refine At.store rfl rfl rfl rfl .z rfl rfl rfl (.c (.c (.c (.c (.c .n))))) ?_; refine nT (sR 2 rfl ?_); obtain ⟨J, j⟩ := bnone j; refine At.y (Y.ix (.s (.s (.s (.s (.s (.s .z)))))) rfl rfl rfl rfl rfl rfl J.1 J.2) rfl rfl rfl ?_; refine At.y (Y.ld (.s (.s (.s (.s (.s (.s .z)))))) (q := 0) rfl rfl J.1 J.2 rfl rfl rfl) rfl rfl rfl ?_; refine At.alloc rfl rfl rfl (fun b4 => ?_); refine At.store rfl rfl rfl rfl .z rfl rfl rfl (.c (.c (.c (.c .n)))) ?_; refine nT (At.seq (sR 1 rfl (At.y (Y.load rfl rfl (.s .z) rfl rfl rfl) rfl rfl rfl (At.nil ?_)))); refine At.thn ?_; obtain ⟨m5, m6, q1, j⟩ := bjoin j; let Z : HProp := pc h4 [i6 ((gt a1 u).Kind), i6 ((gt a1 u).A), i6 ((gt a1 u).B), .string ⟨((gt a1 u).Name).toArray⟩, i6 ((gt a1 u).At)] 51; refine At.join (X := Int × Int × Int × Int) (fun s_ => [(1, .slice A1 a1.length c1), (6, bp a3), (7, .slice a0 p.1.length a2), (11, bp a9), (12, i6 u), (14, bp b4)]) (fun s_ => pc b4 [.int .u64 s_.1, .int .u64 s_.2.1, .int .u64 s_.2.2.1, .int .u64 s_.2.2.2] 38 :: Z :: L :: T7 :: T8 :: T9 :: I :: M :: T6 :: Fr) (fun s_ => m5 (.inl (s_.1, s_.2.1, s_.2.2.1, s_.2.2.2)) = some b2) ?_ (fun O => ?_)
               ·rintro ⟨h5, h6, h7, h8⟩ j; have j := (m6 _).symm.trans j
                ·refine At.seq ?_; refine At.quiet (by kernel_rfl) ?_; refine At.Quiet.run 2 rfl ?_; refine At.Quiet.y (Y.ix (.s (.s (.s (.s (.s (.s (.s .z))))))) rfl rfl rfl rfl rfl rfl J.1 J.2) rfl rfl rfl ?_; refine At.Quiet.y (Y.ld (.s (.s (.s (.s (.s (.s (.s .z))))))) (q := 0) rfl rfl J.1 J.2 rfl rfl rfl) rfl rfl rfl ?_; refine At.Quiet.y (Y.load rfl rfl .z rfl rfl rfl) rfl rfl rfl ?_; refine At.Quiet.y (Y.neAr (xs := [.int .u64 ((gt p.1 u).c0), .int .u64 ((gt p.1 u).c1), .int .u64 ((gt p.1 u).c2), .int .u64 ((gt p.1 u).c3)]) (ys := [.int .u64 h5, .int .u64 h6, .int .u64 h7, .int .u64 h8]) rfl rfl rfl rfl rfl rfl rfl (by kernel_rfl) rfl) rfl rfl rfl ?_; refine At.Quiet.run 1 rfl ?_; obtain ⟨m7, m8, q2, j⟩ := bjoin j; let m9 : HProp := pc b4 [.int .u64 h5, .int .u64 h6, .int .u64 h7, .int .u64 h8] 38; refine At.Quiet.joinO 8 (X := Bool) (fun b5 => [(1, .slice A1 a1.length c1), (6, bp a3), (7, .slice a0 p.1.length a2), (11, bp a9), (12, i6 u), (179, .bool b5)]) (fun b5 => m9 :: Z :: L :: T7 :: T8 :: T9 :: I :: M :: T6 :: Fr) (fun b5 => m7 (.inl b5) = some b2) ?_ (fun h9 => ?_)
                 ·rintro b5 j; have j := (m8 _).symm.trans j
                  ·refine At.Quiet.nil (At.thn ?_); rcases bite j with ⟨e7, j⟩ | ⟨e7, j⟩
                   ··refine At.condT rfl e7 ?_
                     refine sR 1 rfl (nT (At.ret ?_)); refine At.ibr ?_; refine At.thr ?_; have j := bupL m1 h3 j; refine At.thr ?_; refine At.ibr ?_; refine At.thr (At.drop .z (At.drop .z (At.drop .z (At.drop .z (At.drop .z (At.drop .z (At.drop .z ?_))))))); refine At.drop .z (At.drop .z ?_); cases bret j; exact At.res (.inl rfl) rfl rfl ⟨rfl, rfl⟩
                   ··refine At.condF rfl (bn e7) ?_
                     refine At.skip ?_; refine At.ibn ?_; refine At.thn (At.region (At.run 3 rfl (At.nil (At.drop .z (At.drop .z ?_))))); have j := bnx hf_ j; exact fun a w e hs => ⟨m3, (IntKind.i64.wrap (u + 1)), m4, j, e.sub ⟨rfl, rfl, rfl, rfl, rfl, trivial⟩, hs⟩
                 ··rcases bite j with ⟨e8, j⟩ | ⟨e8, j⟩
                   ··refine At.Quiet.know (t := 171) rfl (nf e8) ?_
                     refine At.Quiet.run 2 rfl ?_; refine At.Quiet.y (Y.ix (.s (.s (.s (.s (.s (.s (.s .z))))))) rfl rfl rfl rfl rfl rfl J.1 J.2) rfl rfl rfl ?_; refine At.Quiet.y (Y.ld (.s (.s (.s (.s (.s (.s (.s .z))))))) (q := 0) rfl rfl J.1 J.2 rfl rfl rfl) rfl rfl rfl ?_; refine At.Quiet.y (Y.load rfl rfl (.s (.s .z)) rfl rfl rfl) rfl rfl rfl ?_; obtain ⟨n2, n3, j⟩ := bbind j; refine At.Quiet.call rfl Q113.callee rfl rfl rfl (Q113.spec n3) (fun _ _ h_ => ⟨h_.1, fun _ hs => h_.2 ▸ hs⟩) ?_; refine At.Quiet.run 2 rfl ?_; exact At.Quiet.of (h9 (!n2) j) ⟨rfl, rfl, rfl, rfl, rfl, rfl, trivial⟩
                   ··refine At.Quiet.know (t := 171) rfl (nt (bn e8)) ?_
                     refine At.Quiet.run 8 rfl ?_; exact At.Quiet.of (h9 true j) ⟨rfl, rfl, rfl, rfl, rfl, rfl, trivial⟩
               ··refine At.block ?_
                 refine sR 2 rfl (nT ?_); rcases bite j with ⟨e9, j⟩ | ⟨e9, j⟩
                 ··refine At.condT rfl (decide_eq_true e9) ?_
                   refine At.region (At.y (Y.load rfl rfl (.s (.s .z)) rfl rfl rfl) rfl rfl rfl ?_); refine At.store rfl rfl rfl rfl .z rfl rfl rfl (.c (.c (.c (.c .n)))) ?_; refine At.nil ?_; refine At.ibn ?_; refine At.thn ?_; exact fun a w e hs => O (V.1, V.2.1, V.2.2.1, V.2.2.2) j a w (e.sub ⟨rfl, rfl, rfl, rfl, rfl, rfl, trivial⟩) hs
                 ··refine At.condF rfl (decide_eq_false e9) ?_
                   refine sR 2 rfl (nT ?_); rcases bite j with ⟨f0, j⟩ | ⟨f0, j⟩
                   ··refine At.condT rfl (decide_eq_true f0) ?_
                     refine At.region ?_; refine At.y (Y.buildA (is := []) (xo := []) (vs := []) (cs := [.int .u64 0, .int .u64 0, .int .u64 0, .int .u64 0]) rfl rfl rfl rfl rfl rfl) rfl rfl rfl ?_; refine At.store rfl rfl rfl rfl .z rfl rfl rfl (.c (.c (.c (.c .n)))) ?_; refine At.nil ?_; refine At.ibn ?_; refine At.thn ?_; exact fun a w e hs => O (0, 0, 0, 0) j a w (e.sub ⟨rfl, rfl, rfl, rfl, rfl, rfl, trivial⟩) hs
                   ··refine At.condF rfl (decide_eq_false f0) ?_
                     refine sR 2 rfl (nT ?_); rcases bite j with ⟨f4, j⟩ | ⟨f4, j⟩
                     ··refine At.condT rfl (decide_eq_true f4) ?_
                       refine At.region (At.run 2 rfl (At.y (Y.load rfl rfl (.s .z) rfl rfl rfl) rfl rfl rfl (At.f6 (At.f6 (At.f6 ?_))))); obtain ⟨b9, n4, j⟩ := bbind j; refine At.call rfl Q51.callee rfl rfl rfl (Q51.spec n4) ?_; rintro _ _ ⟨rfl, rfl⟩; refine At.store rfl rfl rfl rfl (.s (.s (.s .z))) rfl rfl rfl (.c (.c (.c (.c .n)))) ?_; refine At.nil ?_; refine At.ibn ?_; refine At.thn (At.f8 (At.f8 (At.f5 (At.f5 (At.f5 (At.f8 (At.f8 ?_))))))); refine At.f8 (At.f8 ?_); exact fun a w e hs => O (b9.1, b9.2.1, b9.2.2.1, b9.2.2.2) j a w (e.sub ⟨rfl, rfl, rfl, rfl, rfl, rfl, trivial⟩) hs
                     ··refine At.condF rfl (decide_eq_false f4) ?_
                       refine sR 2 rfl (nT ?_); rcases bite j with ⟨f7, j⟩ | ⟨f7, j⟩
                       ··refine At.condT rfl (decide_eq_true f7) ?_
                         refine At.held [Z, L, T7, T8, T9, I, M, T6] 7 rfl ?_; refine At.H.tw 0 rfl (Y.load rfl rfl (.s .z) rfl rfl rfl) rfl rfl rfl (.c (.s .z) (.c (.s .z) (.c (.s .z) (.c (.s .z) (.c (.s .z) (.c (.s .z) (.c (.s .z) (.c (.s .z) .n)))))))) ?_; refine At.H.pw 1 rfl rfl rfl rfl rfl (.c (.s .z) (.c (.s .z) (.c (.s .z) (.c (.s .z) (.c (.s .z) (.c (.s .z) (.c (.s .z) (.c (.s .z) .n)))))))) ?_; refine At.H.pw 2 rfl rfl rfl rfl rfl (.c (.s .z) (.c (.s .z) (.c (.s .z) (.c (.s .z) (.c (.s .z) (.c (.s .z) (.c (.s .z) (.c (.s .z) .n)))))))) ?_; refine At.H.tw 3 rfl (Y.load rfl rfl .z rfl rfl rfl) rfl rfl rfl (.c (.s .z) (.c (.s .z) (.c (.s .z) (.c (.s .z) (.c (.s .z) (.c (.s .z) (.c (.s .z) (.c (.s .z) .n)))))))) ?_; refine At.H.al [4] (Q6 ?_ Q7)
                         ··refine At.HO.op rfl ?_
                           refine At.f6 (At.f6 (At.f6 ?_)); obtain ⟨q3, n5, j⟩ := bbind j; refine At.call rfl Q51.callee rfl rfl rfl (Q51.spec n5) ?_; rintro _ _ ⟨rfl, rfl⟩; refine At.HO.back (.c (.s (.s (.s (.s .z)))) (.c (.s (.s (.s (.s .z)))) (.c (.s (.s (.s (.s .z)))) (.c .z (.c .z (.c .z (.c (.s .z) (.c (.s .z) .n)))))))) ?_; refine At.H.al [5] (Q6 ?_ Q7)
                           ··refine At.HO.op rfl ?_
                             obtain ⟨c4, n6, j⟩ := bbind j; refine At.call rfl Q33.callee rfl rfl rfl (Q33.spec n6) ?_; rintro _ _ ⟨rfl, rfl⟩; refine At.HO.back (.c (.s (.s (.s (.s .z)))) (.c (.s (.s (.s (.s .z)))) (.c (.s (.s (.s (.s .z)))) (.c .z (.c .z (.c .z (.c (.s .z) (.c (.s .z) .n)))))))) ?_; refine At.H.al [6] (Q6 ?_ Q7)
                             ··refine At.HO.op rfl ?_
                               refine At.store rfl rfl rfl rfl (.s (.s (.s .z))) rfl rfl rfl (.c (.c (.c (.c .n)))) ?_; refine At.HO.back (.c (.s (.s (.s (.s .z)))) (.c (.s (.s (.s (.s .z)))) (.c (.s (.s (.s (.s .z)))) (.c (.s .z) (.c (.s .z) (.c (.s .z) (.c (.s .z) (.c (.s .z) .n)))))))) ?_; refine At.H.done (by kernel_rfl) ?_; refine At.ibn ?_; refine At.thn (At.f8 (At.f8 (At.f5 (At.f5 (At.f5 (At.f8 (At.f8 ?_))))))); refine At.f8 (At.f8 ?_); exact fun a w e hs => O (c4.1, c4.2.1, c4.2.2.1, c4.2.2.2) j a w (e.sub ⟨rfl, rfl, rfl, rfl, rfl, rfl, trivial⟩) hs
                       ··refine At.condF rfl (decide_eq_false f7) ?_
                         refine sR 2 rfl (nT ?_); rcases bite j with ⟨f9, j⟩ | ⟨f9, j⟩
                         ··refine At.condT rfl (decide_eq_true f9) ?_
                           refine At.held [Z, L, T7, T8, T9, I, M, T6] 8 rfl ?_; refine At.H.tw 0 rfl (Y.load rfl rfl (.s .z) rfl rfl rfl) rfl rfl rfl (.c (.s .z) (.c (.s .z) (.c (.s .z) (.c (.s .z) (.c (.s .z) (.c (.s .z) (.c (.s .z) (.c (.s .z) .n)))))))) ?_; refine At.H.pw 1 rfl rfl rfl rfl rfl (.c (.s .z) (.c (.s .z) (.c (.s .z) (.c (.s .z) (.c (.s .z) (.c (.s .z) (.c (.s .z) (.c (.s .z) .n)))))))) ?_; refine At.H.pw 2 rfl rfl rfl rfl rfl (.c (.s .z) (.c (.s .z) (.c (.s .z) (.c (.s .z) (.c (.s .z) (.c (.s .z) (.c (.s .z) (.c (.s .z) .n)))))))) ?_; refine At.H.tw 3 rfl (Y.load rfl rfl .z rfl rfl rfl) rfl rfl rfl (.c (.s .z) (.c (.s .z) (.c (.s .z) (.c (.s .z) (.c (.s .z) (.c (.s .z) (.c (.s .z) (.c (.s .z) .n)))))))) ?_; obtain ⟨c5, j⟩ := bnone j; refine At.H.tw 4 rfl (Y.ix (.s (.s (.s (.s (.s (.s .z)))))) rfl rfl rfl rfl rfl rfl c5.1 c5.2) rfl rfl rfl (.c (.s .z) (.c (.s .z) (.c (.s .z) (.c (.s .z) (.c (.s .z) (.c (.s .z) (.c (.s .z) (.c (.s .z) .n)))))))) ?_; refine At.H.tw 5 rfl (Y.ld (.s (.s (.s (.s (.s (.s .z)))))) (q := 0) rfl rfl c5.1 c5.2 rfl rfl rfl) rfl rfl rfl (.c (.s .z) (.c (.s .z) (.c (.s .z) (.c (.s .z) (.c (.s .z) (.c (.s .z) (.c (.s .z) (.c (.s .z) .n)))))))) ?_; refine At.H.al [6] (Q6 ?_ Q7)
                           ··refine At.HO.op rfl ?_
                             obtain ⟨c6, n7, j⟩ := bbind j; refine At.call rfl Q33.callee rfl rfl rfl (Q33.spec n7) ?_; rintro _ _ ⟨rfl, rfl⟩; refine At.HO.back (.c (.s .z) (.c (.s .z) (.c (.s .z) (.c (.s .z) (.c (.s .z) (.c (.s .z) (.c (.s .z) (.c (.s .z) .n)))))))) ?_; refine At.H.al [7] (Q6 ?_ Q7)
                             ··refine At.HO.op rfl ?_
                               refine At.store rfl rfl rfl rfl .z rfl rfl rfl (.c (.c (.c (.c .n)))) ?_; refine At.HO.back (.c (.s .z) (.c (.s .z) (.c (.s .z) (.c (.s .z) (.c (.s .z) (.c (.s .z) (.c (.s .z) (.c (.s .z) .n)))))))) ?_; refine At.H.done (by kernel_rfl) ?_; refine At.ibn ?_; refine At.thn ?_; exact fun a w e hs => O (c6.1, c6.2.1, c6.2.2.1, c6.2.2.2) j a w (e.sub ⟨rfl, rfl, rfl, rfl, rfl, rfl, trivial⟩) hs
                         ··refine At.condF rfl (decide_eq_false f9) ?_
                           refine sR 2 rfl (nT ?_); rcases bite j with ⟨g0, j⟩ | ⟨g0, j⟩
                           ··refine At.condT rfl (decide_eq_true g0) ?_
                             refine At.held [Z, L, T7, T8, T9, I, M, T6] 12 rfl ?_; refine At.H.pw 0 rfl rfl rfl rfl rfl (.c (.s .z) (.c (.s .z) (.c (.s .z) (.c (.s .z) (.c (.s .z) (.c (.s .z) (.c (.s .z) (.c (.s .z) .n)))))))) ?_; refine At.H.pw 1 rfl rfl rfl rfl rfl (.c (.s .z) (.c (.s .z) (.c (.s .z) (.c (.s .z) (.c (.s .z) (.c (.s .z) (.c (.s .z) (.c (.s .z) .n)))))))) ?_; refine At.H.tw 2 rfl (Y.load rfl rfl .z rfl rfl rfl) rfl rfl rfl (.c (.s .z) (.c (.s .z) (.c (.s .z) (.c (.s .z) (.c (.s .z) (.c (.s .z) (.c (.s .z) (.c (.s .z) .n)))))))) ?_; obtain ⟨c7, j⟩ := bnone j; refine At.H.tw 3 rfl (Y.ix (.s (.s (.s (.s (.s (.s .z)))))) rfl rfl rfl rfl rfl rfl c7.1 c7.2) rfl rfl rfl (.c (.s .z) (.c (.s .z) (.c (.s .z) (.c (.s .z) (.c (.s .z) (.c (.s .z) (.c (.s .z) (.c (.s .z) .n)))))))) ?_; refine At.H.tw 4 rfl (Y.ld (.s (.s (.s (.s (.s (.s .z)))))) (q := 0) rfl rfl c7.1 c7.2 rfl rfl rfl) rfl rfl rfl (.c (.s .z) (.c (.s .z) (.c (.s .z) (.c (.s .z) (.c (.s .z) (.c (.s .z) (.c (.s .z) (.c (.s .z) .n)))))))) ?_; refine At.H.pw 5 rfl rfl rfl rfl rfl (.c (.s .z) (.c (.s .z) (.c (.s .z) (.c (.s .z) (.c (.s .z) (.c (.s .z) (.c (.s .z) (.c (.s .z) .n)))))))) ?_; refine At.H.pw 6 rfl rfl rfl rfl rfl (.c (.s .z) (.c (.s .z) (.c (.s .z) (.c (.s .z) (.c (.s .z) (.c (.s .z) (.c (.s .z) (.c (.s .z) .n)))))))) ?_; refine At.H.tw 7 rfl (Y.load rfl rfl .z rfl rfl rfl) rfl rfl rfl (.c (.s .z) (.c (.s .z) (.c (.s .z) (.c (.s .z) (.c (.s .z) (.c (.s .z) (.c (.s .z) (.c (.s .z) .n)))))))) ?_; obtain ⟨c8, j⟩ := bnone j; refine At.H.tw 8 rfl (Y.ix (.s (.s (.s (.s (.s (.s .z)))))) rfl rfl rfl rfl rfl rfl c8.1 c8.2) rfl rfl rfl (.c (.s .z) (.c (.s .z) (.c (.s .z) (.c (.s .z) (.c (.s .z) (.c (.s .z) (.c (.s .z) (.c (.s .z) .n)))))))) ?_; refine At.H.tw 9 rfl (Y.ld (.s (.s (.s (.s (.s (.s .z)))))) (q := 0) rfl rfl c8.1 c8.2 rfl rfl rfl) rfl rfl rfl (.c (.s .z) (.c (.s .z) (.c (.s .z) (.c (.s .z) (.c (.s .z) (.c (.s .z) (.c (.s .z) (.c (.s .z) .n)))))))) ?_; refine At.H.al [10] (Q6 ?_ Q7)
                             ··refine At.HO.op rfl ?_
                               obtain ⟨c9, n8, j⟩ := bbind j; refine At.call rfl Q69.callee rfl rfl rfl (Q69.spec n8) ?_; rintro _ _ ⟨rfl, rfl⟩; refine At.HO.back (.c (.s .z) (.c (.s .z) (.c (.s .z) (.c (.s .z) (.c (.s .z) (.c (.s .z) (.c (.s .z) (.c (.s .z) .n)))))))) ?_; refine At.H.al [11] (Q6 ?_ Q7)
                               ··refine At.HO.op rfl ?_
                                 refine At.store rfl rfl rfl rfl .z rfl rfl rfl (.c (.c (.c (.c .n)))) ?_; refine At.HO.back (.c (.s .z) (.c (.s .z) (.c (.s .z) (.c (.s .z) (.c (.s .z) (.c (.s .z) (.c (.s .z) (.c (.s .z) .n)))))))) ?_; refine At.H.done (by kernel_rfl) ?_; refine At.ibn ?_; refine At.thn ?_; exact fun a w e hs => O (c9.1, c9.2.1, c9.2.2.1, c9.2.2.2) j a w (e.sub ⟨rfl, rfl, rfl, rfl, rfl, rfl, trivial⟩) hs
                           ··refine At.condF rfl (decide_eq_false g0) ?_
                             refine sR 2 rfl (nT ?_); rcases bite j with ⟨g1, j⟩ | ⟨g1, j⟩
                             ··refine At.condT rfl (decide_eq_true g1) ?_
                               refine At.held [Z, L, T7, T8, T9, I, M, T6] 12 rfl ?_; refine At.H.pw 0 rfl rfl rfl rfl rfl (.c (.s .z) (.c (.s .z) (.c (.s .z) (.c (.s .z) (.c (.s .z) (.c (.s .z) (.c (.s .z) (.c (.s .z) .n)))))))) ?_; refine At.H.pw 1 rfl rfl rfl rfl rfl (.c (.s .z) (.c (.s .z) (.c (.s .z) (.c (.s .z) (.c (.s .z) (.c (.s .z) (.c (.s .z) (.c (.s .z) .n)))))))) ?_; refine At.H.tw 2 rfl (Y.load rfl rfl .z rfl rfl rfl) rfl rfl rfl (.c (.s .z) (.c (.s .z) (.c (.s .z) (.c (.s .z) (.c (.s .z) (.c (.s .z) (.c (.s .z) (.c (.s .z) .n)))))))) ?_; obtain ⟨d0, j⟩ := bnone j; refine At.H.tw 3 rfl (Y.ix (.s (.s (.s (.s (.s (.s .z)))))) rfl rfl rfl rfl rfl rfl d0.1 d0.2) rfl rfl rfl (.c (.s .z) (.c (.s .z) (.c (.s .z) (.c (.s .z) (.c (.s .z) (.c (.s .z) (.c (.s .z) (.c (.s .z) .n)))))))) ?_; refine At.H.tw 4 rfl (Y.ld (.s (.s (.s (.s (.s (.s .z)))))) (q := 0) rfl rfl d0.1 d0.2 rfl rfl rfl) rfl rfl rfl (.c (.s .z) (.c (.s .z) (.c (.s .z) (.c (.s .z) (.c (.s .z) (.c (.s .z) (.c (.s .z) (.c (.s .z) .n)))))))) ?_; refine At.H.pw 5 rfl rfl rfl rfl rfl (.c (.s .z) (.c (.s .z) (.c (.s .z) (.c (.s .z) (.c (.s .z) (.c (.s .z) (.c (.s .z) (.c (.s .z) .n)))))))) ?_; refine At.H.pw 6 rfl rfl rfl rfl rfl (.c (.s .z) (.c (.s .z) (.c (.s .z) (.c (.s .z) (.c (.s .z) (.c (.s .z) (.c (.s .z) (.c (.s .z) .n)))))))) ?_; refine At.H.tw 7 rfl (Y.load rfl rfl .z rfl rfl rfl) rfl rfl rfl (.c (.s .z) (.c (.s .z) (.c (.s .z) (.c (.s .z) (.c (.s .z) (.c (.s .z) (.c (.s .z) (.c (.s .z) .n)))))))) ?_; obtain ⟨d1, j⟩ := bnone j; refine At.H.tw 8 rfl (Y.ix (.s (.s (.s (.s (.s (.s .z)))))) rfl rfl rfl rfl rfl rfl d1.1 d1.2) rfl rfl rfl (.c (.s .z) (.c (.s .z) (.c (.s .z) (.c (.s .z) (.c (.s .z) (.c (.s .z) (.c (.s .z) (.c (.s .z) .n)))))))) ?_; refine At.H.tw 9 rfl (Y.ld (.s (.s (.s (.s (.s (.s .z)))))) (q := 0) rfl rfl d1.1 d1.2 rfl rfl rfl) rfl rfl rfl (.c (.s .z) (.c (.s .z) (.c (.s .z) (.c (.s .z) (.c (.s .z) (.c (.s .z) (.c (.s .z) (.c (.s .z) .n)))))))) ?_; refine At.H.al [10] (Q6 ?_ Q7)
                               ··refine At.HO.op rfl ?_
                                 obtain ⟨d2, n9, j⟩ := bbind j; refine At.call rfl Q97.callee rfl rfl rfl (Q97.spec n9) ?_; rintro _ _ ⟨rfl, rfl⟩; refine At.HO.back (.c (.s .z) (.c (.s .z) (.c (.s .z) (.c (.s .z) (.c (.s .z) (.c (.s .z) (.c (.s .z) (.c (.s .z) .n)))))))) ?_; refine At.H.al [11] (Q6 ?_ Q7)
                                 ··refine At.HO.op rfl ?_
                                   refine At.store rfl rfl rfl rfl .z rfl rfl rfl (.c (.c (.c (.c .n)))) ?_; refine At.HO.back (.c (.s .z) (.c (.s .z) (.c (.s .z) (.c (.s .z) (.c (.s .z) (.c (.s .z) (.c (.s .z) (.c (.s .z) .n)))))))) ?_; refine At.H.done (by kernel_rfl) ?_; refine At.ibn ?_; refine At.thn ?_; exact fun a w e hs => O (d2.1, d2.2.1, d2.2.2.1, d2.2.2.2) j a w (e.sub ⟨rfl, rfl, rfl, rfl, rfl, rfl, trivial⟩) hs
                             ··refine At.condF rfl (decide_eq_false g1) ?_
                               refine sR 2 rfl (nT ?_); rcases bite j with ⟨g2, j⟩ | ⟨g2, j⟩
                               ··refine At.condT rfl (decide_eq_true g2) ?_
                                 refine At.held [Z, L, T7, T8, T9, I, M, T6] 10 rfl ?_; refine At.H.pw 0 rfl rfl rfl rfl rfl (.c (.s .z) (.c (.s .z) (.c (.s .z) (.c (.s .z) (.c (.s .z) (.c (.s .z) (.c (.s .z) (.c (.s .z) .n)))))))) ?_; refine At.H.pw 1 rfl rfl rfl rfl rfl (.c (.s .z) (.c (.s .z) (.c (.s .z) (.c (.s .z) (.c (.s .z) (.c (.s .z) (.c (.s .z) (.c (.s .z) .n)))))))) ?_; refine At.H.pw 2 rfl rfl rfl rfl rfl (.c (.s .z) (.c (.s .z) (.c (.s .z) (.c (.s .z) (.c (.s .z) (.c (.s .z) (.c (.s .z) (.c (.s .z) .n)))))))) ?_; refine At.H.tw 3 rfl (Y.load rfl rfl .z rfl rfl rfl) rfl rfl rfl (.c (.s .z) (.c (.s .z) (.c (.s .z) (.c (.s .z) (.c (.s .z) (.c (.s .z) (.c (.s .z) (.c (.s .z) .n)))))))) ?_; obtain ⟨d3, j⟩ := bnone j; refine At.H.tw 4 rfl (Y.ix (.s (.s (.s (.s (.s (.s .z)))))) rfl rfl rfl rfl rfl rfl d3.1 d3.2) rfl rfl rfl (.c (.s .z) (.c (.s .z) (.c (.s .z) (.c (.s .z) (.c (.s .z) (.c (.s .z) (.c (.s .z) (.c (.s .z) .n)))))))) ?_; refine At.H.tw 5 rfl (Y.ld (.s (.s (.s (.s (.s (.s .z)))))) (q := 0) rfl rfl d3.1 d3.2 rfl rfl rfl) rfl rfl rfl (.c (.s .z) (.c (.s .z) (.c (.s .z) (.c (.s .z) (.c (.s .z) (.c (.s .z) (.c (.s .z) (.c (.s .z) .n)))))))) ?_; refine At.H.pw 6 rfl rfl rfl rfl rfl (.c (.s .z) (.c (.s .z) (.c (.s .z) (.c (.s .z) (.c (.s .z) (.c (.s .z) (.c (.s .z) (.c (.s .z) .n)))))))) ?_; refine At.H.tw 7 rfl (Y.load rfl rfl .z rfl rfl rfl) rfl rfl rfl (.c (.s .z) (.c (.s .z) (.c (.s .z) (.c (.s .z) (.c (.s .z) (.c (.s .z) (.c (.s .z) (.c (.s .z) .n)))))))) ?_; refine At.H.al [8] (Q6 ?_ Q7)
                                 ··refine At.HO.op rfl ?_
                                   refine At.f6 (At.f6 (At.f6 ?_)); obtain ⟨d4, o0, j⟩ := bbind j; refine At.call rfl Q25.callee rfl rfl rfl (Q25.spec o0) ?_; rintro _ _ ⟨rfl, rfl⟩; refine At.HO.back (.c (.s (.s (.s (.s .z)))) (.c (.s (.s (.s (.s .z)))) (.c (.s (.s (.s (.s .z)))) (.c .z (.c .z (.c .z (.c (.s .z) (.c (.s .z) .n)))))))) ?_; refine At.H.al [9] (Q6 ?_ Q7)
                                   ··refine At.HO.op rfl ?_
                                     refine At.store rfl rfl rfl rfl (.s (.s (.s .z))) rfl rfl rfl (.c (.c (.c (.c .n)))) ?_; refine At.HO.back (.c (.s (.s (.s (.s .z)))) (.c (.s (.s (.s (.s .z)))) (.c (.s (.s (.s (.s .z)))) (.c (.s .z) (.c (.s .z) (.c (.s .z) (.c (.s .z) (.c (.s .z) .n)))))))) ?_; refine At.H.done (by kernel_rfl) ?_; refine At.ibn ?_; refine At.thn (At.f8 (At.f8 (At.f5 (At.f5 (At.f5 (At.f8 (At.f8 ?_))))))); refine At.f8 (At.f8 ?_); exact fun a w e hs => O (d4.1, d4.2.1, d4.2.2.1, d4.2.2.2) j a w (e.sub ⟨rfl, rfl, rfl, rfl, rfl, rfl, trivial⟩) hs
                               ··refine At.condF rfl (decide_eq_false g2) ?_
                                 refine sR 2 rfl (nT ?_); rcases bite j with ⟨g3, j⟩ | ⟨g3, j⟩
                                 ··refine At.condT rfl (decide_eq_true g3) ?_
                                   refine At.held [Z, L, T7, T8, T9, I, M, T6] 14 rfl ?_; refine At.H.tw 0 rfl (Y.load rfl rfl (.s .z) rfl rfl rfl) rfl rfl rfl (.c (.s .z) (.c (.s .z) (.c (.s .z) (.c (.s .z) (.c (.s .z) (.c (.s .z) (.c (.s .z) (.c (.s .z) .n)))))))) ?_; refine At.H.pw 1 rfl rfl rfl rfl rfl (.c (.s .z) (.c (.s .z) (.c (.s .z) (.c (.s .z) (.c (.s .z) (.c (.s .z) (.c (.s .z) (.c (.s .z) .n)))))))) ?_; refine At.H.tw 2 rfl (Y.load rfl rfl (.s .z) rfl rfl rfl) rfl rfl rfl (.c (.s .z) (.c (.s .z) (.c (.s .z) (.c (.s .z) (.c (.s .z) (.c (.s .z) (.c (.s .z) (.c (.s .z) .n)))))))) ?_; refine At.H.pw 3 rfl rfl rfl rfl rfl (.c (.s .z) (.c (.s .z) (.c (.s .z) (.c (.s .z) (.c (.s .z) (.c (.s .z) (.c (.s .z) (.c (.s .z) .n)))))))) ?_; refine At.H.pw 4 rfl rfl rfl rfl rfl (.c (.s .z) (.c (.s .z) (.c (.s .z) (.c (.s .z) (.c (.s .z) (.c (.s .z) (.c (.s .z) (.c (.s .z) .n)))))))) ?_; refine At.H.tw 5 rfl (Y.load rfl rfl .z rfl rfl rfl) rfl rfl rfl (.c (.s .z) (.c (.s .z) (.c (.s .z) (.c (.s .z) (.c (.s .z) (.c (.s .z) (.c (.s .z) (.c (.s .z) .n)))))))) ?_; obtain ⟨d5, j⟩ := bnone j; refine At.H.tw 6 rfl (Y.ix (.s (.s (.s (.s (.s (.s .z)))))) rfl rfl rfl rfl rfl rfl d5.1 d5.2) rfl rfl rfl (.c (.s .z) (.c (.s .z) (.c (.s .z) (.c (.s .z) (.c (.s .z) (.c (.s .z) (.c (.s .z) (.c (.s .z) .n)))))))) ?_; refine At.H.tw 7 rfl (Y.ld (.s (.s (.s (.s (.s (.s .z)))))) (q := 0) rfl rfl d5.1 d5.2 rfl rfl rfl) rfl rfl rfl (.c (.s .z) (.c (.s .z) (.c (.s .z) (.c (.s .z) (.c (.s .z) (.c (.s .z) (.c (.s .z) (.c (.s .z) .n)))))))) ?_; refine At.H.pw 9 rfl rfl rfl rfl rfl (.c (.s .z) (.c (.s .z) (.c (.s .z) (.c (.s .z) (.c (.s .z) (.c (.s .z) (.c (.s .z) (.c (.s .z) .n)))))))) ?_; refine At.H.tw 10 rfl (Y.load rfl rfl .z rfl rfl rfl) rfl rfl rfl (.c (.s .z) (.c (.s .z) (.c (.s .z) (.c (.s .z) (.c (.s .z) (.c (.s .z) (.c (.s .z) (.c (.s .z) .n)))))))) ?_; refine At.H.al [8] (Q6 ?_ Q7)
                                   ··refine At.HO.op rfl ?_
                                     obtain ⟨q4, o7, j⟩ := bbind j; refine At.call rfl Q33.callee rfl rfl rfl (Q33.spec o7) ?_; rintro _ _ ⟨rfl, rfl⟩; refine At.HO.back (.c (.s .z) (.c (.s .z) (.c (.s .z) (.c (.s .z) (.c (.s .z) (.c (.s .z) (.c (.s .z) (.c (.s .z) .n)))))))) ?_; refine At.H.al [11] (Q6 ?_ Q7)
                                     ··refine At.HO.op rfl ?_
                                       refine At.f6 (At.f6 (At.f6 ?_)); obtain ⟨q5, o8, j⟩ := bbind j; refine At.call rfl Q25.callee rfl rfl rfl (Q25.spec o8) ?_; rintro _ _ ⟨rfl, rfl⟩; refine At.HO.back (.c (.s (.s (.s (.s .z)))) (.c (.s (.s (.s (.s .z)))) (.c (.s (.s (.s (.s .z)))) (.c .z (.c .z (.c .z (.c (.s .z) (.c (.s .z) .n)))))))) ?_; refine At.H.al [12] (Q6 ?_ Q7)
                                       ··refine At.HO.op rfl ?_
                                         obtain ⟨d6, o9, j⟩ := bbind j; refine At.call rfl Q33.callee rfl rfl rfl (Q33.spec o9) ?_; rintro _ _ ⟨rfl, rfl⟩; refine At.HO.back (.c (.s (.s (.s (.s .z)))) (.c (.s (.s (.s (.s .z)))) (.c (.s (.s (.s (.s .z)))) (.c .z (.c .z (.c .z (.c (.s .z) (.c (.s .z) .n)))))))) ?_; refine At.H.al [13] (Q6 ?_ Q7)
                                         ··refine At.HO.op rfl ?_
                                           refine At.store rfl rfl rfl rfl (.s (.s (.s .z))) rfl rfl rfl (.c (.c (.c (.c .n)))) ?_; refine At.HO.back (.c (.s (.s (.s (.s .z)))) (.c (.s (.s (.s (.s .z)))) (.c (.s (.s (.s (.s .z)))) (.c (.s .z) (.c (.s .z) (.c (.s .z) (.c (.s .z) (.c (.s .z) .n)))))))) ?_; refine At.H.done (by kernel_rfl) ?_; refine At.ibn ?_; refine At.thn (At.f8 (At.f8 (At.f5 (At.f5 (At.f5 (At.f8 (At.f8 ?_))))))); refine At.f8 (At.f8 ?_); exact fun a w e hs => O (d6.1, d6.2.1, d6.2.2.1, d6.2.2.2) j a w (e.sub ⟨rfl, rfl, rfl, rfl, rfl, rfl, trivial⟩) hs
                                 ··refine At.condF rfl (decide_eq_false g3) ?_
                                   refine At.seq (sR 2 rfl (nT ?_)); obtain ⟨p0, p1, q6, j⟩ := bjoin j; let p2 : HProp := pc b4 [.int .u64 ((gt p.1 u).c0), .int .u64 ((gt p.1 u).c1), .int .u64 ((gt p.1 u).c2), .int .u64 ((gt p.1 u).c3)] 38; refine At.join (X := Bool) (fun b6 => [(1, .slice A1 a1.length c1), (6, bp a3), (7, .slice a0 p.1.length a2), (11, bp a9), (12, i6 u), (13, bp h4), (14, bp b4), (157, .bool b6)]) (fun b6 => p2 :: Z :: L :: T7 :: T8 :: T9 :: I :: M :: T6 :: Fr) (fun b6 => p0 (.inl b6) = some b2) ?_ (fun k0 => ?_)
                                   ·rintro b6 j; have j := (p1 _).symm.trans j
                                    ·rcases bite j with ⟨g4, j⟩ | ⟨g4, j⟩
                                     ··refine At.condT rfl g4 ?_
                                       refine At.region (At.run 2 rfl (At.y (Y.load rfl rfl (.s .z) rfl rfl rfl) rfl rfl rfl ?_)); obtain ⟨d7, j⟩ := bnone j; refine At.y (Y.ix (.s (.s (.s (.s (.s (.s (.s .z))))))) rfl rfl rfl rfl rfl rfl d7.1 d7.2) rfl rfl rfl ?_; refine At.y (Y.ld (.s (.s (.s (.s (.s (.s (.s .z))))))) (q := 0) rfl rfl d7.1 d7.2 rfl rfl rfl) rfl rfl rfl ?_; refine At.store rfl rfl rfl rfl .z rfl rfl rfl (.c (.c (.c (.c .n)))) ?_; refine At.nil ?_; refine At.ibn ?_; refine At.thn ?_; exact fun a w e hs => O ((gt p.1 ((gt a1 u).A)).c0, (gt p.1 ((gt a1 u).A)).c1, (gt p.1 ((gt a1 u).A)).c2, (gt p.1 ((gt a1 u).A)).c3) j a w (e.sub ⟨rfl, rfl, rfl, rfl, rfl, rfl, trivial⟩) hs
                                     ··refine At.condF rfl (bn g4) ?_
                                       refine At.skip ?_; refine At.ibn ?_; refine At.thn ?_; exact fun a w e hs => O ((gt p.1 u).c0, (gt p.1 u).c1, (gt p.1 u).c2, (gt p.1 u).c3) j a w (e.sub ⟨rfl, rfl, rfl, rfl, rfl, rfl, trivial⟩) hs
                                   ··rcases bite j with ⟨g5, j⟩ | ⟨g5, j⟩
                                     ··refine At.condT rfl (decide_eq_true g5) ?_
                                       refine At.skip (At.thn ?_); exact fun a w e hs => k0 (decide ((gt a1 u).Kind = 10)) j a w (e.sub ⟨rfl, rfl, rfl, rfl, rfl, rfl, rfl, rfl, trivial⟩) hs
                                     ··refine At.condF rfl (decide_eq_false g5) ?_
                                       refine At.region (At.run 2 rfl (nT ?_)); exact fun a w e hs => k0 (decide ((gt a1 u).Kind = 11)) j a w (e.sub ⟨rfl, rfl, rfl, rfl, rfl, rfl, rfl, rfl, trivial⟩) hs
             ··refine At.condF rfl (decide_eq_false e6) ?_
               refine At.exit ?_; refine At.the ?_; refine At.the ?_; exact fun a w e hs => m2 () (bdn j h3) a w (e.sub trivial) hs
       ··rcases bite j with ⟨g6, j⟩ | ⟨g6, j⟩
         ··refine At.Quiet.know (t := 47) rfl (nf (decide_eq_true g6)) ?_
           refine At.Quiet.run 4 rfl ?_; obtain ⟨d8, j⟩ := bnone j; refine At.Quiet.y (Y.ix (.s (.s (.s (.s .z)))) rfl rfl rfl rfl rfl rfl d8.1 d8.2) rfl rfl rfl ?_; refine At.Quiet.y (Y.ld (.s (.s (.s (.s .z)))) (q := 0) rfl rfl d8.1 d8.2 rfl rfl rfl) rfl rfl rfl ?_; refine At.Quiet.y (Y.load rfl rfl .z rfl rfl rfl) rfl rfl rfl ?_; refine At.Quiet.y (Y.neAr (xs := [.int .u64 ((gt p.1 (IntKind.i64.wrap ((p.1.length : Int) - 1))).c0), .int .u64 ((gt p.1 (IntKind.i64.wrap ((p.1.length : Int) - 1))).c1), .int .u64 ((gt p.1 (IntKind.i64.wrap ((p.1.length : Int) - 1))).c2), .int .u64 ((gt p.1 (IntKind.i64.wrap ((p.1.length : Int) - 1))).c3)]) (ys := [.int .u64 G.2.1, .int .u64 G.2.2.1, .int .u64 G.2.2.2.1, .int .u64 G.2.2.2.2]) rfl rfl rfl rfl rfl rfl rfl (by kernel_rfl) rfl) rfl rfl rfl ?_; refine At.Quiet.run 1 rfl ?_; exact At.Quiet.of (h2 (!(decide ((gt p.1 (IntKind.i64.wrap ((p.1.length : Int) - 1))).c0 = G.2.1) && (decide ((gt p.1 (IntKind.i64.wrap ((p.1.length : Int) - 1))).c1 = G.2.2.1) && (decide ((gt p.1 (IntKind.i64.wrap ((p.1.length : Int) - 1))).c2 = G.2.2.2.1) && (decide ((gt p.1 (IntKind.i64.wrap ((p.1.length : Int) - 1))).c3 = G.2.2.2.2) && true))))) j) ⟨rfl, rfl, rfl, rfl, rfl, trivial⟩
         ··refine At.Quiet.know (t := 47) rfl (nt (decide_eq_false g6)) ?_
           refine At.Quiet.run 9 rfl ?_; exact At.Quiet.of (h2 true j) ⟨rfl, rfl, rfl, rfl, rfl, trivial⟩
     ··refine At.condT rfl (nt (decide_eq_false e2)) ?_
       refine sR 4 rfl (nT (At.ret (At.thr (At.drop .z ?_)))); refine At.drop .z (At.drop .z (At.drop .z (At.drop .z ?_))); cases bret j; exact At.res (.inl rfl) rfl rfl ⟨rfl, rfl⟩
 ··rcases bite j with ⟨g7, j⟩ | ⟨g7, j⟩
   ··refine At.know (t := 20) rfl (nf g7) ?_
     refine At.run 1 rfl ?_; refine At.y (Y.eqOpt .z rfl rfl rfl rfl) rfl rfl rfl ?_; refine At.run 1 rfl ?_; exact At.of (g9 D.isNone j) ⟨rfl, rfl, rfl, rfl, rfl, trivial⟩
   ··refine At.know (t := 20) rfl (nt (bn g7)) ?_
     refine At.run 3 rfl ?_; exact At.of (g9 true j) ⟨rfl, rfl, rfl, rfl, rfl, trivial⟩

end Go.Bw
namespace Go.Bw
open Go Go.RowKit

theorem begin_run (f : List Q2) (hs : ∀ n ∈ f, (n.Name.length : Int) ≤ 9223372036854775807) (hz : (0 + f.length) * 48 ≤ 140737488355328) :
 (∀ n holds next, Q30.f n holds next f = some (.inl ())) ∨ ∃ to, 1 ≤ f.length ∧ f.length ≤ 60 ∧ to.length = f.length ∧ Bd f to [] 0 ((f.length : Int) - 1) ∧
  ∀ n holds next C, Tb n holds next C → Q30.f n holds next f = some (.inr (to, Wd (BitVec.ofInt 64 (2 ^ n.toNat - 1)), 0, 0, 0)) ∧ Ws (BitVec.ofInt 64 (2 ^ n.toNat - 1)) C.all := by
 obtain ⟨r, hr, g, rfl, hl, hg⟩ := Q65 (body := fun t_ : (List Q2) × Int => Q30.l0b f t_.1 t_.2) (fun s => s.1.length = f.length ∧ 0 ≤ s.2 ∧ s.2 ≤ (f.length : Int) ∧ (∀ m, 0 ≤ m → m < s.2 → gt s.1 m = wide (gt f m)) ∧ ∀ m, s.2 ≤ m → gt s.1 m = gt f m)
  (fun r => ∃ g, r = .inl g ∧ g.length = f.length ∧ ∀ m, 0 ≤ m → m < (f.length : Int) → gt g m = wide (gt f m)) (fun s => ((f.length : Int) - s.2).toNat) (fun ⟨t, i⟩ ⟨a0, a1, a2, a3, a4⟩ => by
   dsimp only at a0 a1 a2 a3 a4 ⊢
   unfold Q30.l0b
   by_cases hi : i < (f.length : Int)
   ·right
    have hx := a4 i (Int.le_refl _)
    rw [if_pos hi, if_pos ⟨a1, hi⟩, wrap64 (x := i + 1) (by omega) (by omega)]
    by_cases hk : (gt t i).Kind = 12
    ·rw [if_pos hk, Q14]
     refine ⟨_, rfl, ⟨by dsimp only; rw [Q87, a0], by dsimp only; omega, by dsimp only; omega, fun m m0 m1 => ?_, fun m m1 => ?_⟩, by dsimp only; omega⟩
     ·dsimp only at m1 ⊢
      rw [Q80 a1 (by omega) m0]
      split
      ·rename_i hmi
       rw [hmi, hx]
       unfold wide
       rw [if_pos (by rw [← hx]; exact hk)]
      ·exact a3 m m0 (by omega)
     ·dsimp only at m1 ⊢
      rw [Q80 a1 (by omega) (by omega), if_neg (by omega)]
      exact a4 m (by omega)
    ·rw [if_neg hk, Q14]
     refine ⟨_, rfl, ⟨a0, by dsimp only; omega, by dsimp only; omega, fun m m0 m1 => ?_, fun m m1 => a4 m (by dsimp only at m1; omega)⟩, by dsimp only; omega⟩
     dsimp only at m1 ⊢
     by_cases hm : m = i
     ·rw [hm, hx]
      unfold wide
      rw [if_neg (by rw [← hx]; exact hk)]
     ·exact a3 m m0 (by omega)
   ·left
    rw [if_neg hi]
    exact ⟨_, rfl, t, rfl, a0, fun m m0 m1 => a3 m m0 (by omega)⟩) (f, 0) ⟨rfl, Int.le_refl 0, by dsimp only; omega, fun m m0 m1 => by dsimp only at m1; omega, fun m _ => rfl⟩
 have hr' : Q30.l0 f f 0 = some (.inl g) := hr
 have hgs : ∀ x ∈ g, (x.Name.length : Int) ≤ 9223372036854775807 := fun x hx => by
  obtain ⟨q, hq, rfl⟩ := List.getElem_of_mem hx
  have e := hg (q : Int) (by omega) (by omega)
  rw [Q147 (List.getElem?_eq_getElem hq)] at e
  rw [e, (Q157 _).2.2]
  exact hs _ (Q101 (by omega) (by omega))
 obtain ⟨e, i, hc, hb⟩ := check_run g hgs
 by_cases he : e = 0
 ·right
  obtain ⟨to, B⟩ := hb he
  have n0 := B.n0
  have n1 := B.n1
  have bd : Bd f to [] 0 ((f.length : Int) - 1) := by have := B.bd.wide_of hl hg; rwa [hl] at this
  refine ⟨to, by omega, by omega, by rw [B.len, hl], bd, fun n holds next C T => ?_⟩
  have hal : Ws (BitVec.ofInt 64 (2 ^ n.toNat - 1)) C.all := by
   have := full_ws T.n0 T.n1
   unfold Ctx.all
   rw [T.N]
   exact this
  refine ⟨?_, hal⟩
  unfold Q30.f Q118.f
  rw [if_pos hz, Option.bind_some, hr', Q14, hc, Option.bind_some]
  simp only [he, if_true, B.bi, Option.bind_some, Q92.f, Q249 T.n0 T.n1]
  rw [if_pos (by omega)]
 ·left
  intro n holds next
  unfold Q30.f Q118.f
  rw [if_pos hz, Option.bind_some, hr', Q14, hc, Option.bind_some]
  simp only [if_neg he, Option.bind_some]

theorem Bd.at {f : List Q2} {to : List Int} {N : Int} {sc : List (Int × Bool)} {l n : Int} (b : Bd f to sc l n) : (∀ p ∈ sc, n < p.1 ∧ p.1 < N) → n < N → ∀ m, l ≤ m → m ≤ n → ∃ sc' l', Bd f to sc' l' m ∧ ∀ p ∈ sc', m < p.1 ∧ p.1 < N := by
 induction b with
 | @var sc n h0 h1 hk hs => intro hsc hN m m0 m1; obtain rfl : m = n := (by omega); exact ⟨sc, m, .var h0 h1 hk hs, hsc⟩
 | @leaf sc n h0 h1 hk h4 => intro hsc hN m m0 m1; obtain rfl : m = n := (by omega); exact ⟨sc, m, .leaf h0 h1 hk h4, hsc⟩
 | @not sc l n h1 hk ha s ih =>
  intro hsc hN m m0 m1
  by_cases hm : m = n
  ·subst hm; exact ⟨sc, l, .not h1 hk ha s, hsc⟩
  ·exact ih (fun p hp => by obtain ⟨q, hq, rfl⟩ := List.mem_map.1 hp; have := hsc q hq; dsimp only; omega) (by omega) m m0 (by omega)
 | @modal sc l n h1 hk ha s ih =>
  intro hsc hN m m0 m1
  by_cases hm : m = n
  ·subst hm; exact ⟨sc, l, .modal h1 hk ha s, hsc⟩
  ·exact ih (fun p hp => by have := hsc p hp; omega) (by omega) m m0 (by omega)
 | @fix sc l n h1 hk ha s ih =>
  intro hsc hN m m0 m1
  by_cases hm : m = n
  ·subst hm; exact ⟨sc, l, .fix h1 hk ha s, hsc⟩
  ·refine ih (fun p hp => ?_) (by omega) m m0 (by omega)
   rcases List.mem_cons.1 hp with rfl | hp
   ·dsimp only; omega
   ·have := hsc p hp; omega
 | @two sc l q n h1 hk ha hb s t ih1 ih2 =>
  intro hsc hN m m0 m1
  have := s.le
  have := t.le
  by_cases hm : m = n
  ·subst hm; exact ⟨sc, l, .two h1 hk ha hb s t, hsc⟩
  ·by_cases hq : m ≤ q
   ·exact ih1 (fun p hp => by have := hsc p hp; omega) (by omega) m m0 hq
   ·exact ih2 (fun p hp => by have := hsc p hp; omega) (by omega) m (by omega) (by omega)
section
variable {n : Int} {holds : List (Bs × Q0)} {next : List (Q8 × Q0)} {C : Ctx} {f : List Q2} {to : List Int}
noncomputable def Ef (C : Ctx) (f : List Q2) (to : List Int) : Nat → Int → PS
 | 0 => fun _ _ => False
 | k + 1 => updE (Ef C f to k) ((f.length : Int) - 1 - k) (den C f to ((f.length : Int) - 1 - k) (Ef C f to k))
theorem Ef_stay {k k' : Nat} (h : k ≤ k') {m : Int} (hm : (f.length : Int) - k ≤ m) : Ef C f to k' m = Ef C f to k m := by
 induction h with
 | refl => rfl
 | step h ih =>
  rename_i q
  have h : k ≤ q := h
  show updE (Ef C f to q) _ _ m = _
  rw [Q155 (by omega), ih]
noncomputable def Ea (C : Ctx) (f : List Q2) (to : List Int) : Int → PS := Ef C f to f.length
theorem Q109 (b : Bd f to [] 0 ((f.length : Int) - 1)) {m : Int} (m0 : 0 ≤ m) (m1 : m < (f.length : Int)) : Ea C f to m = den C f to m (Ea C f to) := by
 obtain ⟨sc, l, bm, hsc⟩ := b.at (N := f.length) (fun p hp => by cases hp) (by omega) m m0 (by omega)
 obtain ⟨k, hk⟩ : ∃ k : Nat, (f.length : Int) - 1 - k = m := ⟨((f.length : Int) - 1 - m).toNat, by omega⟩
 have e1 : Ea C f to m = Ef C f to (k + 1) m := Ef_stay (by omega) (by omega)
 rw [e1]
 show updE (Ef C f to k) _ _ m = _
 rw [hk, Q150]
 exact Q223 bm (fun p hp => (hsc p hp).1) fun p hp => (Ef_stay (k := k) (k' := f.length) (by omega) (by have := hsc p hp; omega)).symm
theorem Ea_in (hC : C.Ok) (b : Bd f to [] 0 ((f.length : Int) - 1)) {m : Int} (m0 : 0 ≤ m) (m1 : m < (f.length : Int)) : Le (Ea C f to m) C.all := by
 have key : ∀ (q : Nat) (m : Int), 0 ≤ m → m < (f.length : Int) → (f.length : Int) - m = q → Le (Ea C f to m) C.all := fun q => by
  induction q using Nat.strongRecOn with
  | _ q ih =>
   intro m m0 m1 hq
   obtain ⟨sc, l, bm, hsc⟩ := b.at (N := f.length) (fun p hp => by cases hp) (by omega) m m0 (by omega)
   rw [Q109 b m0 m1]
   exact den_in hC bm (fun p hp => ih ((f.length : Int) - p.1).toNat (by have := hsc p hp; omega) p.1 (by have := hsc p hp; omega) (hsc p hp).2 (by have := hsc p hp; omega)) fun p hp => (hsc p hp).1
 exact key ((f.length : Int) - m).toNat m m0 m1 (by omega)
theorem all_loop (T : Tb n holds next C) (h60 : f.length ≤ 60) (hto : to.length = f.length) {al : BitVec 64} (hal : Ws al C.all) (b : Bd f to [] 0 ((f.length : Int) - 1)) :
 ∃ out env, Q42.l0 n holds next f (to, Wd al, 0, 0, 0) (List.replicate (f.length : Int).toNat (⟨0, 0, 0, 0⟩ : Q0)) (List.replicate (f.length : Int).toNat (⟨0, 0, 0, 0⟩ : Q0)) ((f.length : Int) - 1) = some (.inl (out, env)) ∧
  out.length = f.length ∧ ∀ m, 0 ≤ m → m < (f.length : Int) → EnvD C out (Ea C f to) m := by
 have hrl : (List.replicate (f.length : Int).toNat (⟨0, 0, 0, 0⟩ : Q0)).length = f.length := by simp
 obtain ⟨r, hr, out, env, rfl, h1, h2⟩ := Q65 (body := fun t_ : (List Q0) × (List Q0) × Int => Q42.l0b n holds next f (to, Wd al, 0, 0, 0) t_.1 t_.2.1 t_.2.2)
  (fun s => s.1.length = f.length ∧ s.2.1.length = f.length ∧ -1 ≤ s.2.2 ∧ s.2.2 < (f.length : Int) ∧ ∀ m, s.2.2 < m → m < (f.length : Int) → EnvD C s.1 (Ea C f to) m)
  (fun r => ∃ out env, r = .inl (out, env) ∧ out.length = f.length ∧ ∀ m, 0 ≤ m → m < (f.length : Int) → EnvD C out (Ea C f to) m) (fun s => (s.2.2 + 1).toNat) (fun ⟨o, e, i⟩ ⟨a0, a1, a2, a3, a4⟩ => by
   dsimp only at a0 a1 a2 a3 a4 ⊢
   unfold Q42.l0b
   by_cases hi : 0 ≤ i
   ·right
    have hw : IntKind.i64.wrap (i - 1) = i - 1 := wrap64 (by omega) (by omega)
    rw [if_pos hi, if_pos ⟨hi, a3⟩, hrl, hw]
    obtain ⟨sc, l, bm, hsc⟩ := b.at (N := f.length) (fun p hp => by cases hp) (by omega) i hi (by omega)
    have put : ∀ v : BitVec 64, Ws v (Ea C f to i) → ∀ m, i - 1 < m → m < (f.length : Int) → EnvD C (st o i (S1 v)) (Ea C f to) m := fun v hv m m0 m1 => by
     by_cases hm : m = i
     ·subst hm
      exact ⟨v, by rw [Q80 hi (by omega) hi, if_pos rfl], hv, Ea_in T.ok b hi a3⟩
     ·obtain ⟨u, h1, h2, h3⟩ := a4 m (by omega) m1
      exact ⟨u, by rw [Q80 hi (by omega) (by omega), if_neg hm]; exact h1, h2, h3⟩
    by_cases k4 : (gt f i).Kind = 4
    ·have hs : (gt to i, true) ∈ sc := by
      cases bm with
      | var h0 h1 hk hs => exact hs
      | leaf h0 h1 hk h4 => exact absurd k4 h4
      | not h1 hk ha s => omega
      | modal h1 hk ha s => unfold Modal at hk; omega
      | fix h1 hk ha s => unfold Fixy at hk; omega
      | two h1 hk ha hb s t => unfold Twoy at hk; omega
     have hp := hsc _ hs
     dsimp only at hp
     obtain ⟨u, h1, h2, h3⟩ := a4 (gt to i) hp.1 hp.2
     have hE : Ea C f to i = Ea C f to (gt to i) := (Q109 b hi a3).trans (Q163 k4)
     rw [if_pos k4, if_pos ⟨hi, by rw [hto]; exact a3⟩, if_pos ⟨show 0 ≤ gt to i by omega, hp.2⟩, if_pos ⟨hi, a3⟩, Q14, h1]
     exact ⟨_, rfl, ⟨by dsimp only; rw [Q87, a0], a1, by dsimp only; omega, by dsimp only; omega, put u (by rw [hE]; exact h2)⟩, by dsimp only; omega⟩
    ·have he : o.take f.length ++ e.drop f.length = o := by rw [List.take_of_length_le (by omega), List.drop_of_length_le (by omega), List.append_nil]
     obtain ⟨e', v, hev, g1, g2, g3⟩ := Q263 T hal bm hto hsc o (Ea C f to) a0 (fun p hp => a4 p.1 (hsc p hp).1 (hsc p hp).2)
     have hf : Q11.f n holds next f to (Wd al) 0 0 0 o i = some (e', Wd v, 0, 0, 0) := hev.recF
     rw [if_neg k4, he, hf, Option.bind_some, if_pos ⟨hi, a3⟩, Q14]
     exact ⟨_, rfl, ⟨by dsimp only; rw [Q87, a0], g1, by dsimp only; omega, by dsimp only; omega, put v (by rw [Q109 b hi a3]; exact g3)⟩, by dsimp only; omega⟩
   ·left
    rw [if_neg hi]
    exact ⟨_, rfl, o, e, rfl, a0, fun m m0 m1 => a4 m (by omega) m1⟩) (List.replicate (f.length : Int).toNat (⟨0, 0, 0, 0⟩ : Q0), List.replicate (f.length : Int).toNat (⟨0, 0, 0, 0⟩ : Q0), (f.length : Int) - 1) ⟨hrl, hrl, by dsimp only; omega, by dsimp only; omega, fun m m0 m1 => by dsimp only at m0; omega⟩
 exact ⟨out, env, hr, h1, h2⟩
end
theorem all_run (f : List Q2) (hs : ∀ n ∈ f, (n.Name.length : Int) ≤ 9223372036854775807) (hz : (0 + f.length) * 48 ≤ 140737488355328) :
 (∀ n holds next, Q42.f n holds next f = some ([], 1) ∧ Q78.f n holds next f = some (1, 0, 0, 0, 0)) ∨ ∃ to, 1 ≤ f.length ∧ f.length ≤ 60 ∧ to.length = f.length ∧ Bd f to [] 0 ((f.length : Int) - 1) ∧
  ∀ n holds next C, Tb n holds next C → ∃ out v, Q42.f n holds next f = some (out, 0) ∧ out.length = f.length ∧ (∀ m, 0 ≤ m → m < (f.length : Int) → EnvD C out (Ea C f to) m) ∧
   Q78.f n holds next f = some (0, Wd v, 0, 0, 0) ∧ Ws v (den C f to ((f.length : Int) - 1) fun _ _ => False) ∧ gt out ((f.length : Int) - 1) = S1 v := by
 rcases begin_run f hs hz with h | ⟨to, f0, f1, ft, bd, h⟩
 ·left
  intro n holds next
  refine ⟨?_, ?_⟩
  ·unfold Q42.f
   rw [h, Option.bind_some]
  ·unfold Q78.f
   rw [h, Option.bind_some]
 ·right
  refine ⟨to, f0, f1, ft, bd, fun n holds next C T => ?_⟩
  obtain ⟨hb, hal⟩ := h n holds next C T
  obtain ⟨out, env, h1, h2, h3⟩ := all_loop T f1 ft hal bd
  obtain ⟨e', v, hev, _, _, hw⟩ := Q263 T hal bd ft (fun p hp => by cases hp) (List.replicate (f.length : Int).toNat ⟨0, 0, 0, 0⟩) (fun _ _ => False) (by simp) (fun p hp => by cases hp)
  have hwr : IntKind.i64.wrap ((f.length : Int) - 1) = (f.length : Int) - 1 := wrap64 (by omega) (by omega)
  refine ⟨out, v, ?_, h2, h3, ?_, hw, ?_⟩
  ·unfold Q42.f
   rw [hb, Option.bind_some]
   dsimp only
   rw [if_pos (by omega), hwr, h1, Q14]
  ·unfold Q78.f
   rw [hb, Option.bind_some]
   dsimp only
   have hf : Q11.f n holds next f to (Wd (BitVec.ofInt 64 (2 ^ n.toNat - 1))) 0 0 0 (List.replicate (f.length : Int).toNat ⟨0, 0, 0, 0⟩) ((f.length : Int) - 1) = some (e', Wd v, 0, 0, 0) := hev.recF
   rw [hwr, hf]
   rfl
  ·obtain ⟨u, g1, g2, g3⟩ := h3 ((f.length : Int) - 1) (by omega) (by omega)
   rw [g1]
   have : u = v := Ws.uniq (S := den C f to ((f.length : Int) - 1) fun _ _ => False) (by
    rw [Q109 bd (by omega) (by omega)] at g2
    rw [Q223 (E' := Ea C f to) bd (fun p hp => by cases hp) (fun p hp => by cases hp)]
    exact g2) hw
   rw [this]
end Go.Bw
namespace Go.Bw
open Go Go.RowKit

theorem wd_zero {v : BitVec 64} : Wd v = 0 ↔ v = 0#64 := by
 constructor
 ·intro h; exact Wd.inj (h.trans rfl)
 ·rintro rfl; rfl
theorem Q214 {κ ν : Type} [DecidableEq κ] : ∀ (m : List (κ × ν)) (k k' : κ) (v : ν), mget (mset m k v) k' = if k = k' then some v else mget m k'
 | [], k, k', v => by unfold mset mget; split <;> rfl
 | p :: r, k, k', v => by
  unfold mset
  by_cases h : p.1 = k
  ·rw [if_pos h]
   unfold mget
   by_cases h2 : k = k'
   ·simp [h2]
   ·rw [if_neg h2, if_neg h2, if_neg (fun h3 => h2 (h.symm.trans h3))]
  ·rw [if_neg h]
   unfold mget
   by_cases h2 : p.1 = k'
   ·rw [if_pos h2, if_pos h2, if_neg (fun h3 => h (h2.trans h3.symm))]
   ·rw [if_neg h2, if_neg h2, Q214 r k k' v]
def Hit (x : List Bs) (E : List Q3) (k : Q8) (t : Int) : Prop := ∃ e ∈ E, e.From = k.from_ ∧ e.To = t ∧ (gt x e.Action = k.action ∨ k.action = [45])
abbrev set0 : Q0 := ⟨(0 : Int), (0 : Int), (0 : Int), (0 : Int)⟩
def W4.s (u : W4) : Q0 := ⟨Wd u.a, Wd u.b, Wd u.c, Wd u.d⟩
def Nx (x : List Bs) (E : List Q3) (m : List (Q8 × Q0)) : Prop := ∀ k, ∃ u : W4, (mget m k).getD set0 = u.s ∧ u.Rep (Hit x E k)
theorem put_hit {m : List (Q8 × Q0)} {S : Q8 → Int → Prop} (h : ∀ k, ∃ u : W4, (mget m k).getD set0 = u.s ∧ u.Rep (S k)) {k0 : Q8} {t : Int} (h0 : 0 ≤ t) (h1 : t < 256) {u : W4} (hu : (mget m k0).getD set0 = u.s) :
 ∀ k, ∃ u' : W4, (mget (mset m k0 (u.put t).s) k).getD set0 = u'.s ∧ u'.Rep (fun n => S k n ∨ k0 = k ∧ n = t) := fun k => by
 rw [Q214]
 by_cases hk : k0 = k
 ·subst hk
  rw [if_pos rfl]
  obtain ⟨v, hv, hr⟩ := h k0
  rw [hu] at hv
  have : u = v := by
   cases u; cases v
   simp only [W4.s, Q0.mk.injEq] at hv
   rw [Wd.inj hv.1, Wd.inj hv.2.1, Wd.inj hv.2.2.1, Wd.inj hv.2.2.2]
  subst this
  refine ⟨u.put t, rfl, fun n n0 n1 => ?_⟩
  rw [W4.put_rep hr h0 h1 n n0 n1]
  simp
 ·rw [if_neg hk]
  obtain ⟨v, hv, hr⟩ := h k
  refine ⟨v, hv, fun n n0 n1 => ?_⟩
  rw [hr n n0 n1]
  simp [hk]
theorem l2_run (x : List Bs) (y : List Q3) {j : Int} (hj : 0 ≤ j) (hj2 : j < (y.length : Int)) {E : List Q3} {m : List (Q8 × Q0)} (hm : Nx x E m) (ht : 0 ≤ (gt y j).To ∧ (gt y j).To < 256) :
 ∃ m', Q15.l2 x y j m 0 = some (.inl m') ∧ Nx x (E ++ [gt y j]) m' := by
 unfold Q15.l2
 rw [Q84]
 have w1 : IntKind.i64.wrap (0 + 1) = 1 := wrap64 (by decide) (by decide)
 have w2 : IntKind.i64.wrap (1 + 1) = 2 := wrap64 (by decide) (by decide)
 have g0 : gt [gt x (gt y j).Action, ([45] : Bs)] 0 = gt x (gt y j).Action := rfl
 have g1 : gt [gt x (gt y j).Action, ([45] : Bs)] 1 = [45] := rfl
 obtain ⟨u1, e1, r1⟩ := hm ⟨(gt y j).From, gt x (gt y j).Action⟩
 have s1 := put_hit hm ht.1 ht.2 e1
 obtain ⟨u2, e2, r2⟩ := s1 ⟨(gt y j).From, [45]⟩
 have s2 := put_hit s1 ht.1 ht.2 e2
 refine ⟨mset (mset m ⟨(gt y j).From, gt x (gt y j).Action⟩ (u1.put (gt y j).To).s) ⟨(gt y j).From, [45]⟩ (u2.put (gt y j).To).s, ?_, fun k => ?_⟩
 rotate_left
 ·obtain ⟨u3, e3, r3⟩ := s2 k
  refine ⟨u3, e3, fun n n0 n1 => ?_⟩
  rw [r3 n n0 n1]
  unfold Hit
  constructor
  ·rintro ((⟨e, he, q⟩ | ⟨rfl, rfl⟩) | ⟨rfl, rfl⟩)
   ·exact ⟨e, by simp [he], q⟩
   ·exact ⟨gt y j, by simp, rfl, rfl, .inl rfl⟩
   ·exact ⟨gt y j, by simp, rfl, rfl, .inr rfl⟩
  ·rintro ⟨e, he, q1, q2, q3⟩
   rcases List.mem_append.1 he with he | he
   ·exact .inl (.inl ⟨e, he, q1, q2, q3⟩)
   ·simp at he
    subst he
    rcases q3 with q3 | q3
    ·exact .inl (.inr ⟨by rw [q1, q3], q2.symm⟩)
    ·exact .inr ⟨by rw [q1, ← q3], q2.symm⟩
 ·simp only [Q15.l2b]
  rw [if_pos (by simp), if_pos (by simp), g0, e1]
  simp only [W4.s, Q182, if_pos ht, Option.bind_some, nx, w1]
  rw [Q84]
  simp only [Q15.l2b]
  rw [if_pos (by simp), if_pos (by simp), g1]
  have e2' : (mget (mset m ({ from_ := (gt y j).From, action := gt x (gt y j).Action } : Q8) ({ c0 := (u1.put (gt y j).To).t.1, c1 := (u1.put (gt y j).To).t.2.1, c2 := (u1.put (gt y j).To).t.2.2.1, c3 := (u1.put (gt y j).To).t.2.2.2 } : Q0)) { from_ := (gt y j).From, action := [45] }).getD set0 = u2.s := e2
  rw [e2']
  simp only [W4.s, Q182, if_pos ht, Option.bind_some, nx, w2]
  rw [Q84]
  simp only [Q15.l2b]
  rw [if_neg (by simp)]
  rfl
theorem l1_run (n : Int) (x : List Bs) (y : List Q3) (hy : (y.length : Int) ≤ 9223372036854775807) (he : ∀ e ∈ y, EdgeIn n x.length e) (hn : n ≤ 24) :
 ∃ m, Q15.l1 x y [] 0 = some (.inl m) ∧ Nx x y m := by
 obtain ⟨r, hr, m, rfl, hm⟩ := Q65 (body := fun t_ : List (Q8 × Q0) × Int => Q15.l1b x y t_.1 t_.2) (fun s => 0 ≤ s.2 ∧ s.2 ≤ (y.length : Int) ∧ Nx x (y.take s.2.toNat) s.1)
  (fun r => ∃ m, r = .inl m ∧ Nx x y m) (fun s => ((y.length : Int) - s.2).toNat) (fun ⟨m, i⟩ ⟨h0, h1, h2⟩ => by
   dsimp only at h0 h1 h2 ⊢
   unfold Q15.l1b
   by_cases hi : i < (y.length : Int)
   ·right
    have hE := he _ (Q101 h0 hi)
    obtain ⟨m', hm', hx⟩ := l2_run x y h0 hi h2 ⟨hE.2.2.1, by have := hE.2.2.2.1; omega⟩
    rw [if_pos hi, if_pos ⟨h0, hi⟩, if_pos hE.2.2.2.2, hm', Q14, wrap64 (x := i + 1) (by omega) (by omega)]
    refine ⟨_, rfl, ⟨by dsimp only; omega, by dsimp only; omega, ?_⟩, by dsimp only; omega⟩
    dsimp only
    rw [show (i + 1).toNat = i.toNat + 1 from by omega, List.take_add_one, Q117 h0 hi]
    exact hx
   ·left
    rw [if_neg hi]
    refine ⟨_, rfl, m, rfl, ?_⟩
    rwa [List.take_of_length_le (by omega)] at h2) ([], 0) ⟨Int.le_refl _, by dsimp only; omega, fun k => ⟨W4.z, rfl, fun n n0 n1 => by
     rw [W4.z_rep n n0 n1]
     simp [Hit]⟩⟩
 exact ⟨m, hr, hm⟩
end Go.Bw
namespace Go.Bw
open Go Go.RowKit

theorem band0 (v : BitVec 64) : band .u64 (Wd v) 0 = 0 := by
 rw [show (0 : Int) = Wd 0#64 from rfl, Q193]
 simp
def Meets (S : Int → Prop) (to : BitVec 64) : Prop := ∃ t : Nat, t < 64 ∧ S t ∧ to.getLsbD t = true
theorem Q221 {u : W4} {S : Int → Prop} (h : u.Rep S) (to : BitVec 64) : u.a &&& to = 0#64 ↔ ¬ Meets S to := by
 have hb : ∀ i : Nat, i < 64 → (u.a.getLsbD i = true ↔ S i) := fun i hi => by
  have := h i (by omega) (by omega)
  unfold W4.has W4.sel at this
  rw [show ((i : Int) / 64) = 0 from by omega, show ((i : Int) % 64).toNat = i from by omega] at this
  simpa using this
 constructor
 ·rintro h0 ⟨t, h1, h2, h3⟩
  have := congrArg (fun z => z.getLsbD t) h0
  simp [(hb t h1).2 h2, h3] at this
 ·intro hn
  apply BitVec.eq_of_getLsbD_eq
  intro i hi
  rw [BitVec.getLsbD_and]
  cases h1 : u.a.getLsbD i with
  | false => simp
  | true =>
   cases h2 : to.getLsbD i with
   | false => simp
   | true => exact absurd ⟨i, hi, (hb i hi).1 h1, h2⟩ hn
theorem back_run {x : List Bs} {y : List Q3} {next : List (Q8 × Q0)} (hx : Nx x y next) {n : Int} (hn : 0 ≤ n) (hn2 : n ≤ 24) (holds : List (Bs × Q0)) (to : BitVec 64) (a : Bs) :
 ∃ v : W4, Q25.f n holds next (Wd to) 0 0 0 a = some v.t ∧ v.Rep (fun s => 0 ≤ s ∧ s < n ∧ Meets (Hit x y ⟨s, a⟩) to) := by
 obtain ⟨r, hr, v, rfl, hv⟩ := Q65 (body := fun t_ : Int × Int × Int × Int × Int => Q25.l0b n next (Wd to) 0 0 0 a t_.1 t_.2.1 t_.2.2.1 t_.2.2.2.1 t_.2.2.2.2)
  (fun s => 0 ≤ s.2.2.2.2 ∧ s.2.2.2.2 ≤ n ∧ ∃ v : W4, (s.1, s.2.1, s.2.2.1, s.2.2.2.1) = v.t ∧ v.Rep (fun q => 0 ≤ q ∧ q < s.2.2.2.2 ∧ Meets (Hit x y ⟨q, a⟩) to))
  (fun r => ∃ v : W4, r = .inl v.t ∧ v.Rep (fun s => 0 ≤ s ∧ s < n ∧ Meets (Hit x y ⟨s, a⟩) to)) (fun s => (n - s.2.2.2.2).toNat)
  (fun ⟨w0, w1, w2, w3, i⟩ ⟨a0, a1, v, a2, a3⟩ => by
   dsimp only at a0 a1 a2 a3 ⊢
   simp only [W4.t, Prod.mk.injEq] at a2
   obtain ⟨rfl, rfl, rfl, rfl⟩ := a2
   unfold Q25.l0b
   by_cases hi : i < n
   ·right
    obtain ⟨u, hu, hur⟩ := hx ⟨i, a⟩
    rw [if_pos hi, hu, wrap64 (x := i + 1) (by omega) (by omega)]
    simp only [W4.s, Q69.f, Q193, band0, Option.bind_some, decide_true, Bool.and_true]
    by_cases hz : u.a &&& to = 0#64
    ·rw [if_pos (by rw [hz]; rfl), Q14]
     refine ⟨_, rfl, ⟨by dsimp only; omega, by dsimp only; omega, v, rfl, fun q q0 q1 => ?_⟩, by dsimp only; omega⟩
     rw [a3 q q0 q1]
     have hnm := (Q221 hur to).1 hz
     dsimp only
     constructor
     ·rintro ⟨h1, h2, h3⟩; exact ⟨h1, by omega, h3⟩
     ·rintro ⟨h1, h2, h3⟩
      refine ⟨h1, ?_, h3⟩
      have : q ≠ i := fun h => by subst h; exact hnm h3
      omega
    ·rw [if_neg (by rw [decide_eq_true_eq]; exact fun h => hz (wd_zero.1 h)), Q182, if_pos (by omega)]
     simp only [Option.bind_some, Q14]
     refine ⟨_, rfl, ⟨by dsimp only; omega, by dsimp only; omega, v.put i, rfl, fun q q0 q1 => ?_⟩, by dsimp only; omega⟩
     rw [W4.put_rep a3 a0 (by omega) q q0 q1]
     have hm : Meets (Hit x y ⟨i, a⟩) to := Classical.not_not.1 fun h => hz ((Q221 hur to).2 h)
     dsimp only
     constructor
     ·rintro (⟨h1, h2, h3⟩ | rfl)
      ·exact ⟨h1, by omega, h3⟩
      ·exact ⟨a0, by omega, hm⟩
     ·rintro ⟨h1, h2, h3⟩
      by_cases h : q = i
      ·exact .inr h
      ·exact .inl ⟨h1, by omega, h3⟩
   ·left
    rw [if_neg hi]
    refine ⟨_, rfl, v, rfl, ?_⟩
    have : i = n := by omega
    subst this
    exact a3) (0, 0, 0, 0, 0) ⟨Int.le_refl _, hn, W4.z, rfl, fun q q0 q1 => by
     rw [W4.z_rep q q0 q1]
     dsimp only
     constructor
     ·exact fun h => h.elim
     ·rintro ⟨h1, h2, _⟩; omega⟩
 refine ⟨v, ?_, hv⟩
 unfold Q25.f
 have hl : Q25.l0 n next (Wd to) 0 0 0 a 0 0 0 0 0 = some (.inl v.t) := hr
 rw [hl, Q14]
end Go.Bw
namespace Go.Bw
open Go Go.RowKit

def Hx (z : List Q4) (m : List (Bs × Q0)) : Prop := ∀ k, ∃ u : W4, (mget m k).getD set0 = u.s ∧ u.Rep (fun t => ∃ p ∈ z, p.Name = k ∧ t ∈ p.States)
theorem holds_run (z : List Q4) (hz : (z.length : Int) ≤ 9223372036854775807) (hs : ∀ p ∈ z, (p.States.length : Int) ≤ 9223372036854775807) (hd : ∀ i j : Int, 0 ≤ i → i < j → j < (z.length : Int) → (gt z i).Name ≠ (gt z j).Name) :
 ∃ m, Q15.l0 z [] 0 = some (.inl m) ∧ Hx z m := by
 obtain ⟨r, hr, m, rfl, hm⟩ := Q65 (body := fun t_ : List (Bs × Q0) × Int => Q15.l0b z t_.1 t_.2) (fun s => 0 ≤ s.2 ∧ s.2 ≤ (z.length : Int) ∧ Hx (z.take s.2.toNat) s.1)
  (fun r => ∃ m, r = .inl m ∧ Hx z m) (fun s => ((z.length : Int) - s.2).toNat) (fun ⟨m, i⟩ ⟨h0, h1, h2⟩ => by
   dsimp only at h0 h1 h2 ⊢
   unfold Q15.l0b
   by_cases hi : i < (z.length : Int)
   ·right
    obtain ⟨u, hu, hur⟩ := of_run4 (hs _ (Q101 h0 hi))
    rw [if_pos hi, if_pos ⟨h0, hi⟩, hu, wrap64 (x := i + 1) (by omega) (by omega)]
    refine ⟨_, rfl, ⟨by dsimp only; omega, by dsimp only; omega, fun k => ?_⟩, by dsimp only; omega⟩
    dsimp only
    rw [show (i + 1).toNat = i.toNat + 1 from by omega, List.take_add_one, Q117 h0 hi, Q214]
    by_cases hk : (gt z i).Name = k
    ·rw [if_pos hk]
     refine ⟨u, rfl, fun n n0 n1 => ?_⟩
     rw [hur n n0 n1]
     constructor
     ·intro h; exact ⟨gt z i, by simp, hk, h⟩
     ·rintro ⟨p, hp, e1, e2⟩
      rcases List.mem_append.1 hp with hp | hp
      ·obtain ⟨q, hq, rfl⟩ := List.getElem_of_mem hp
       have hq' : q < i.toNat := by simp at hq; omega
       have hq2 : q < z.length := by simp at hq; omega
       have := hd q i (by omega) (by omega) hi
       rw [Q147 (List.getElem?_eq_getElem hq2)] at this
       simp only [List.getElem_take] at e1
       exact absurd (e1.trans hk.symm) this
      ·simp at hp; subst hp; exact e2
    ·rw [if_neg hk]
     obtain ⟨v, hv, hvr⟩ := h2 k
     refine ⟨v, hv, fun n n0 n1 => ?_⟩
     rw [hvr n n0 n1]
     constructor
     ·rintro ⟨p, a, b⟩; exact ⟨p, by simp [a], b⟩
     ·rintro ⟨p, a, b, c⟩
      rcases List.mem_append.1 a with a | a
      ·exact ⟨p, a, b, c⟩
      ·simp at a; subst a; exact absurd b hk
   ·left
    rw [if_neg hi]
    rw [List.take_of_length_le (by omega)] at h2
    exact ⟨_, rfl, m, rfl, h2⟩) ([], 0) ⟨Int.le_refl _, by dsimp only; omega, fun k => ⟨W4.z, rfl, fun n n0 n1 => by
     rw [W4.z_rep n n0 n1]
     simp⟩⟩
 exact ⟨m, hr, hm⟩
end Go.Bw
namespace Go.Bw
open Go Go.RowKit

section
variable {z : List Q4} {holds : List (Bs × Q0)}
noncomputable def hoW (hh : Hx z holds) (a : Bs) : W4 := (hh a).choose
theorem hoW_rep (hh : Hx z holds) (a : Bs) : (hoW hh a).Rep (fun t => ∃ p ∈ z, p.Name = a ∧ t ∈ p.States) := (hh a).choose_spec.2
theorem hoW_run (hh : Hx z holds) (n : Int) (next : List (Q8 × Q0)) (a : Bs) : Q51.f n holds next a = some (hoW hh a).t := by
 have h := (hh a).choose_spec.1
 unfold Q51.f
 rw [h]
 rfl
end
def sysC (n : Int) (x : List Bs) (y : List Q3) (z : List Q4) : Ctx := ⟨n, fun a s => ∃ p ∈ z, p.Name = a ∧ s ∈ p.States, fun a s t => Hit x y ⟨s, a⟩ t⟩
theorem sys_ok {n : Int} {x : List Bs} {y : List Q3} {z : List Q4} (R : RightS n x y z) : (sysC n x y z).Ok := by
 refine ⟨fun a s ⟨p, hp, _, hs⟩ => ?_, fun a s t ⟨e, he, h1, h2, _⟩ => ?_⟩
 ·exact (R.pr p hp).2.1 s hs
 ·have := R.ed e he
  unfold EdgeIn at this
  unfold Ctx.all sysC
  dsimp only at h1 h2 ⊢
  omega
theorem sys_tb {n : Int} {x : List Bs} {y : List Q3} {z : List Q4} (R : RightS n x y z) {holds : List (Bs × Q0)} {next : List (Q8 × Q0)} (hx : Nx x y next) (hh : Hx z holds) : Tb n holds next (sysC n x y z) := by
 have n0 := R.n0
 have n1 := R.n1
 refine ⟨rfl, n0, n1, sys_ok R, fun a => ?_, fun a v S hv hS => ?_⟩
 ·obtain ⟨e, hw⟩ := W4.word (n := n) (by omega) (hoW_rep hh a) (fun s hs => (sys_ok R).holds a s hs)
  refine ⟨(hoW hh a).a, ?_, hw⟩
  rw [hoW_run hh n next a, e]
  rfl
 ·obtain ⟨u, hu, hr⟩ := back_run hx (show 0 ≤ n by omega) (by omega) holds v a
  obtain ⟨e, hw⟩ := W4.word (n := n) (by omega) hr (fun s hs => ⟨hs.1, hs.2.1⟩)
  refine ⟨u.a, by rw [hu, e]; rfl, fun i hi => (hw i hi).trans ?_⟩
  constructor
  ·rintro ⟨_, _, t, ht, h1, h2⟩
   exact ⟨t, h1, (hv t ht).1 h2⟩
  ·rintro ⟨t, h1, h2⟩
   have h3 := (sys_ok R).edge a i t h1
   have h4 := h3.2
   unfold Ctx.all sysC at h3 h4
   dsimp only at h3 h4
   refine ⟨h3.1.1, h3.1.2, t.toNat, by omega, ?_, (hv t.toNat (by omega)).2 ?_⟩
   ·rw [show ((t.toNat : Nat) : Int) = t by omega]; exact h1
   ·rw [show ((t.toNat : Nat) : Int) = t by omega]; exact h2
theorem new_tab {n : Int} {x : List Bs} {y : List Q3} {z : List Q4} (hs : ∀ p ∈ z, (p.States.length : Int) ≤ 9223372036854775807) (R : RightS n x y z) : ∃ holds next, Q15.f n x y z = some (some ⟨n, holds, next⟩) ∧ Tb n holds next (sysC n x y z) := by
 obtain ⟨m0, hm0, hh⟩ := holds_run z (by have := R.nz; omega) hs (fun i j h0 h1 h2 => rise_ne R.rz h0 h1 h2)
 obtain ⟨m1, hm1, hx⟩ := l1_run n x y (by have := R.ny; omega) R.ed R.n1
 obtain ⟨b, hb, hf⟩ := Q228 n x y z hs
 have hbt : b = true := hf.2 R
 subst hbt
 exact ⟨m0, m1, by unfold Q15.f; rw [hb]; simp [hm0, hm1, jn], sys_tb R hx hh⟩
theorem new_none {n : Int} {x : List Bs} {y : List Q3} {z : List Q4} (hs : ∀ p ∈ z, (p.States.length : Int) ≤ 9223372036854775807) (h : ¬ RightS n x y z) : Q15.f n x y z = some none := by
 obtain ⟨b, hb, hf⟩ := Q228 n x y z hs
 have hbt : b = false := by
  cases b with
  | false => rfl
  | true => exact absurd (hf.1 rfl) h
 subst hbt
 unfold Q15.f
 rw [hb]
 simp [jn]
end Go.Bw
namespace Go.Bw
open Go Go.RowKit

theorem Q181 (u v : BitVec 64) : Q33.f (Wd u) 0 0 0 (Wd v) 0 0 0 = some (Wd (u &&& ~~~ v), 0, 0, 0) := by
 unfold Q33.f
 rw [Q226, bandnot00]
theorem in_wd {u v : BitVec 64} {S T : PS} (hu : Ws u S) (hv : Ws v T) (h : Le S T) : Q113.f (Wd u) 0 0 0 (Wd v) 0 0 0 = some true := by
 unfold Q113.f
 rw [Q181, Option.bind_some]
 have : u &&& ~~~ v = 0#64 := Ws.uniq (S := fun _ => False) (fun i hi => by
  rw [hu.minus hv i hi]
  exact ⟨fun q => q.2 (h _ q.1), fun q => q.elim⟩) Ws.none
 rw [this]
 rfl
section
variable {n : Int} {holds : List (Bs × Q0)} {next : List (Q8 × Q0)} {C : Ctx} {f : List Q2} {to : List Int} {out : List Q0} {al : BitVec 64}
theorem nodes_l0 (T : Tb n holds next C) (h60 : f.length ≤ 60) (hal : Ws al C.all) (b : Bd f to [] 0 ((f.length : Int) - 1)) (hlen : out.length = f.length) (ho : ∀ m, 0 ≤ m → m < (f.length : Int) → EnvD C out (Ea C f to) m) (e : Int) :
 Q64.l0 f (some ⟨n, holds, next⟩) (out, e) (Wd al, 0, 0, 0) 0 = some (.inl ()) := by
 obtain ⟨r, hr, rfl⟩ := Q65 (body := fun t_ : Int => Q64.l0b f (some ⟨n, holds, next⟩) (out, e) (Wd al, 0, 0, 0) t_) (fun i => 0 ≤ i) (fun r => r = .inl ()) (fun i => ((f.length : Int) - i).toNat) (fun i i0 => by
  simp only [Q64.l0b]
  by_cases hi : i < (f.length : Int)
  ·right
   obtain ⟨v, g1, g2, g3⟩ := ho i i0 hi
   obtain ⟨sc, l, bm, hsc⟩ := b.at (N := f.length) (fun p hp => by cases hp) (by omega) i i0 (by omega)
   have hE := Q109 (C := C) b i0 hi
   have hin := in_wd g2 hal g3
   -- what is wanted of this node is what it has
   have fin : ∀ w : BitVec 64, Ws w (Ea C f to i) →
    (jn (if (decide ((gt out i).c0 = Wd w) && (decide ((gt out i).c1 = 0) && (decide ((gt out i).c2 = 0) && (decide ((gt out i).c3 = 0) && true)))) = true then
     (Q113.f ((gt out i).c0) ((gt out i).c1) ((gt out i).c2) ((gt out i).c3) (Wd al) 0 0 0).bind fun t1930 => some (.inl (!t1930))
     else some (.inl true)) (fun (x1923 : Bool) => if x1923 = true then upL (some false) else nx (IntKind.i64.wrap (i + 1))) : Option ((Int) ⊕ ((Unit) ⊕ (Bool)))) = some (.inl (i + 1)) := fun w hw => by
    have : w = v := Ws.uniq hw g2
    subst this
    rw [g1]
    dsimp only
    rw [hin]
    simp only [decide_true, Bool.and_self, if_true, Option.bind_some, Bool.not_true, Q14, Bool.false_eq_true, if_false]
    rw [wrap64 (x := i + 1) (by omega) (by omega)]
    rfl
   rw [if_pos hi, if_pos ⟨i0, hi⟩, hlen, if_pos ⟨i0, hi⟩]
   refine ⟨i + 1, ?_, by omega, by omega⟩
   cases bm with
   | var h0 h1 hk hs =>
    simp only [hk, g1]
    simp only [g1] at fin
    exact fin v g2
   | leaf h0 h1 hk h4 =>
    obtain ⟨u, hu, hw⟩ := T.ho (gt f i).Name
    rcases hk with hk | hk | hk | hk | hk
    ·simp only [hk]
     exact fin al (by rw [hE, Q160 hk]; exact hal)
    ·simp only [hk]
     exact fin 0#64 (by rw [hE, Q166 hk]; exact Ws.none)
    ·simp only [hk, Option.getD_some, hu, Option.bind_some]
     exact fin u (by rw [hE, Q173 hk]; exact hw)
    ·exact absurd hk h4
    ·simp only [hk, Option.getD_some, hu, Option.bind_some, Q181]
     exact fin (al &&& ~~~ u) (by rw [hE, Q159 hk]; exact hal.minus hw)
   | not h1 hk ha s =>
    have := s.le
    obtain ⟨u, q1, q2, q3⟩ := ho (i - 1) (by omega) (by omega)
    rw [Q109 b (by omega) (by omega)] at q2
    simp only [hk, ha, if_pos (show (0 : Int) ≤ i - 1 ∧ i - 1 < (f.length : Int) by omega), q1, Q181, Option.bind_some]
    exact fin (al &&& ~~~ u) (by rw [hE, Q164 hk ha (by omega)]; exact hal.minus q2)
   | modal h1 hk ha s =>
    have := s.le
    obtain ⟨u, q1, q2, q3⟩ := ho (i - 1) (by omega) (by omega)
    rw [Q109 b (by omega) (by omega)] at q2 q3
    rcases hk with hk | hk
    ·obtain ⟨w, hw, hww⟩ := T.ba (gt f i).Name u _ q2 q3
     simp only [hk, ha, if_pos (show (0 : Int) ≤ i - 1 ∧ i - 1 < (f.length : Int) by omega), q1, Option.getD_some, hw, Option.bind_some]
     exact fin w (by rw [hE, Q158 hk ha (by omega)]; exact hww)
    ·obtain ⟨w, hw, hww⟩ := T.ba (gt f i).Name (al &&& ~~~ u) _ (hal.minus q2) (fun s h => h.1)
     simp only [hk, ha, if_pos (show (0 : Int) ≤ i - 1 ∧ i - 1 < (f.length : Int) by omega), q1, Option.getD_some, Q181, hw, Option.bind_some]
     refine fin (al &&& ~~~ w) ?_
     rw [hE, Q161 hk ha (by omega)]
     have h := hal.minus hww
     have e1 : (fun s => C.all s ∧ ∀ t, C.edge (gt f i).Name s t → den C f to (i - 1) (Ea C f to) t) = fun s => C.all s ∧ ¬ ∃ t, C.edge (gt f i).Name s t ∧ C.all t ∧ ¬ den C f to (i - 1) (Ea C f to) t := by
      funext s
      refine propext (and_congr_right fun _ => ?_)
      constructor
      ·rintro h ⟨t, h1, _, h3⟩; exact h3 (h t h1)
      ·intro h t ht
       exact Classical.byContradiction fun hn => h ⟨t, ht, (T.ok.edge _ _ _ ht).2, hn⟩
     rw [e1]
     exact h
   | fix h1 hk ha s =>
    have := s.le
    obtain ⟨u, q1, q2, q3⟩ := ho (i - 1) (by omega) (by omega)
    have hsc' : ∀ p ∈ (i, true) :: sc, i - 1 < p.1 := fun p hp => by
     rcases List.mem_cons.1 hp with rfl | hp
     ·dsimp only; omega
     ·have := hsc p hp; omega
    have hmono : ∀ S S', Le S S' → Le (den C f to (i - 1) (updE (Ea C f to) i S)) (den C f to (i - 1) (updE (Ea C f to) i S')) := fun S S' h =>
     Q187 s hsc' ((Way.rfl sc (Ea C f to)).cons (fun p hp => by have := hsc p hp; omega) h)
    have hup : updE (Ea C f to) i (Ea C f to i) = Ea C f to := by
     funext m
     unfold updE
     split
     ·rename_i h; rw [h]
     ·rfl
    have same : Ea C f to (i - 1) = Ea C f to i := by
     rw [Q109 b (by omega) (by omega)]
     rcases hk with hk | hk
     ·have e1 := hE
      rw [Q171 hk ha (by omega)] at e1
      have hp : Le (den C f to (i - 1) (updE (Ea C f to) i (Ea C f to i))) (Ea C f to i) := by
       have := lfp_pre hmono
       rw [← e1] at this
       exact this
      rw [hup] at hp
      refine funext fun t => propext ⟨hp t, fun h => ?_⟩
      rw [e1] at h
      refine h _ fun t ht => ?_
      have h2 := hmono _ _ hp t
      rw [hup] at h2
      exact h2 ht
     ·have e1 := hE
      rw [Q169 hk ha (by omega)] at e1
      have hm2 : ∀ S S', Le S S' → Le (fun s => C.all s ∧ den C f to (i - 1) (updE (Ea C f to) i S) s) (fun s => C.all s ∧ den C f to (i - 1) (updE (Ea C f to) i S') s) := fun S S' h t ht => ⟨ht.1, hmono _ _ h t ht.2⟩
      have hp : Le (Ea C f to i) (den C f to (i - 1) (updE (Ea C f to) i (Ea C f to i))) := fun t ht => by
       have := Q273 hm2
       rw [← e1] at this
       exact (this t ht).2
      rw [hup] at hp
      have hin2 : Le (den C f to (i - 1) (Ea C f to)) C.all := by
       rw [← Q109 b (by omega) (by omega)]
       exact Ea_in T.ok b (by omega) (by omega)
      refine funext fun t => propext ⟨fun h => ?_, hp t⟩
      rw [e1]
      refine ⟨den C f to (i - 1) (Ea C f to), fun q hq => ⟨hin2 q hq, ?_⟩, h⟩
      have h2 := hmono _ _ hp q
      rw [hup] at h2
      exact h2 hq
    have go := fin u (by rw [← same]; exact q2)
    rcases hk with hk | hk
    ·simp only [hk, ha, if_pos (show (0 : Int) ≤ i - 1 ∧ i - 1 < (f.length : Int) by omega), q1]
     exact go
    ·simp only [hk, ha, if_pos (show (0 : Int) ≤ i - 1 ∧ i - 1 < (f.length : Int) by omega), q1]
     exact go
   | @two _ _ q _ h1 hk ha hb s t =>
    have := s.le
    have := t.le
    obtain ⟨u, q1, q2, q3⟩ := ho (i - 1) (by omega) (by omega)
    obtain ⟨w, p1, p2, p3⟩ := ho q (by omega) (by omega)
    rw [Q109 b (by omega) (by omega)] at q2 p2
    rcases hk with hk | hk
    ·simp only [hk, ha, hb, if_pos (show (0 : Int) ≤ i - 1 ∧ i - 1 < (f.length : Int) by omega), if_pos (show (0 : Int) ≤ q ∧ q < (f.length : Int) by omega), q1, p1, Q69.f, Q193, band00, Option.bind_some]
     exact fin (w &&& u) (by rw [hE, Q168 hk ha hb (by omega) (by omega)]; exact p2.and q2)
    ·simp only [hk, ha, hb, if_pos (show (0 : Int) ≤ i - 1 ∧ i - 1 < (f.length : Int) by omega), if_pos (show (0 : Int) ≤ q ∧ q < (f.length : Int) by omega), q1, p1, Q97.f, bor_wd, bor00, Option.bind_some]
     exact fin (w ||| u) (by rw [hE, Q167 hk ha hb (by omega) (by omega)]; exact p2.or q2)
  ·left; rw [if_neg hi]; exact ⟨_, rfl, rfl⟩) 0 (Int.le_refl _)
 exact hr
end
theorem nodes_run (n : Int) (x : List Bs) (y : List Q3) (z : List Q4) (f : List Q2) (hs : ∀ p ∈ z, (p.States.length : Int) ≤ 9223372036854775807) (hf : ∀ n ∈ f, (n.Name.length : Int) ≤ 9223372036854775807) (hz : (0 + f.length) * 48 ≤ 140737488355328) :
 Q64.f n x y z f = some true := by
 unfold Q64.f
 rw [Q310, Option.bind_some]
 by_cases R : RightS n x y z
 ·have n0 := R.n0
  have n1 := R.n1
  obtain ⟨ho, ne, hN, T⟩ := new_tab hs R
  simp only [hN, Option.bind_some, if_true, Option.isNone_some, Q14, Bool.false_eq_true, if_false, Option.getD_some]
  rcases all_run f hf hz with h | ⟨to, f0, f1, ft, bd, h⟩
  ·simp only [(h _ _ _).1, Option.bind_some]
   simp
  ·obtain ⟨out, v, h1, h2, h3, h4, h5, h6⟩ := h _ _ _ _ T
   have hal := full_ws T.n0 T.n1
   have hal' : Ws (BitVec.ofInt 64 (2 ^ n.toNat - 1)) (sysC n x y z).all := hal
   have hw : IntKind.i64.wrap ((f.length : Int) - 1) = (f.length : Int) - 1 := wrap64 (by omega) (by omega)
   simp only [h1, h4, Option.bind_some, if_true, h2, hw, if_pos (show (0 : Int) ≤ (f.length : Int) - 1 ∧ (f.length : Int) - 1 < (f.length : Int) by omega), h6, Q14, decide_true, Bool.and_self, Bool.not_true, Bool.false_eq_true, if_false, Q249 T.n0 T.n1, nodes_l0 T f1 hal' bd h2 h3]
 ·rw [new_none hs R]
  simp [jn]
end Go.Bw
namespace Go.Bw
open Go Go.RowKit Go.ChangeShapes Go.WideShapes Go.Deep
section
variable {P : Program} {α β γ δ ε : Type}
theorem Q308 {H : Type} {enc : TypeId × Value → H} {w : World} {base : Nat} {spare : TypeId → Bool} {held : Bool} {t : TypeId} {f0 f1 f2 f3 f4 : Field} {fuel : Nat} {cs : List Value} {x : DataW H × List MemPlace} (ht : P.underlying t = some (.struct #[f0, f1, f2, f3, f4])) (h : DataW.trod enc P w base spare held fuel t cs = some x) :
 ∃ y0 y1 y2 y3 y4 n, x = (.agg [y0.1, y1.1, y2.1, y3.1, y4.1], y0.2 ++ (y1.2 ++ (y2.2 ++ (y3.2 ++ y4.2)))) ∧ cs.length = P.cellsOf t ∧ DataW.trod enc P w base spare held n f0.type ((cs.drop f0.offset).take (P.cellsOf f0.type)) = some y0 ∧
  DataW.trod enc P w base spare held n f1.type ((cs.drop f1.offset).take (P.cellsOf f1.type)) = some y1 ∧ DataW.trod enc P w base spare held n f2.type ((cs.drop f2.offset).take (P.cellsOf f2.type)) = some y2 ∧
  DataW.trod enc P w base spare held n f3.type ((cs.drop f3.offset).take (P.cellsOf f3.type)) = some y3 ∧ DataW.trod enc P w base spare held n f4.type ((cs.drop f4.offset).take (P.cellsOf f4.type)) = some y4 := by
 obtain ⟨xs, n, _, rfl, hl, hlen, hf⟩ := DataW.trod_struct ht h
 match xs, hlen with
 | [y0, y1, y2, y3, y4], _ => exact ⟨y0, y1, y2, y3, y4, n, by simp, hl, by simpa using hf 0 f0 rfl, by simpa using hf 1 f1 rfl, by simpa using hf 2 f2 rfl, by simpa using hf 3 f3 rfl, by simpa using hf 4 f4 rfl⟩
theorem OpensZ.st5 {T : Rep α} {U : Rep β} {V : Rep γ} {X : Rep δ} {Y : Rep ε} {S Z : α → Prop} {S' Z' : β → Prop} {S'' Z'' : γ → Prop} {S3 Z3 : δ → Prop} {S4 Z4 : ε → Prop} {t : Nat} {f0 f1 f2 f3 f4 : Field} (ht : P.underlying t = some (.struct #[f0, f1, f2, f3, f4])) (o0 : OpensZ P T f0.type S Z) (o1 : OpensZ P U f1.type S' Z') (o2 : OpensZ P V f2.type S'' Z'') (o3 : OpensZ P X f3.type S3 Z3) (o4 : OpensZ P Y f4.type S4 Z4)
 (h0 : f0.offset = 0) (h1 : f1.offset = T.sz) (h2 : f2.offset = T.sz + U.sz) (h3 : f3.offset = T.sz + (U.sz + V.sz)) (h4 : f4.offset = T.sz + (U.sz + (V.sz + X.sz))) (hc : P.cellsOf t = T.sz + (U.sz + (V.sz + (X.sz + Y.sz)))) :
 OpensZ P (T.pair (U.pair (V.pair (X.pair Y)))) t (fun p => S p.1 ∧ S' p.2.1 ∧ S'' p.2.2.1 ∧ S3 p.2.2.2.1 ∧ S4 p.2.2.2.2) (fun p => Z p.1 ∧ Z' p.2.1 ∧ Z'' p.2.2.1 ∧ Z3 p.2.2.2.1 ∧ Z4 p.2.2.2.2) := ⟨hc, fun fuel cs x h => by
 obtain ⟨y0, y1, y2, y3, y4, n, hx, hl, g0, g1, g2, g3, g4⟩ := Q308 ht h
 obtain ⟨a, ka, sa, za⟩ := o0.2 _ _ _ g0
 obtain ⟨b, kb, sb, zb⟩ := o1.2 _ _ _ g1
 obtain ⟨c, kc, sc, zc⟩ := o2.2 _ _ _ g2
 obtain ⟨d, kd, sd, zd⟩ := o3.2 _ _ _ g3
 obtain ⟨e, ke, se, ze⟩ := o4.2 _ _ _ g4
 rw [h0, o0.1, List.drop_zero] at ka
 rw [h1, o1.1] at kb
 rw [h2, o2.1, ← List.drop_drop] at kc
 rw [h3, o3.1, ← List.drop_drop, ← List.drop_drop] at kd
 rw [h4, o4.1, ← List.drop_drop, ← List.drop_drop, ← List.drop_drop] at ke
 have e1 : cs = cs.take T.sz ++ cs.drop T.sz := (List.take_append_drop _ _).symm
 have e2 : cs.drop T.sz = (cs.drop T.sz).take U.sz ++ (cs.drop T.sz).drop U.sz := (List.take_append_drop _ _).symm
 have e3 : (cs.drop T.sz).drop U.sz = ((cs.drop T.sz).drop U.sz).take V.sz ++ ((cs.drop T.sz).drop U.sz).drop V.sz := (List.take_append_drop _ _).symm
 have e4 := cut2 (cs := ((cs.drop T.sz).drop U.sz).drop V.sz) (a := X.sz) (b := Y.sz) (by simp; omega)
 exact ⟨(a, b, c, d, e), ⟨_, _, e1, ka, _, _, e2, kb, _, _, e3, kc, _, _, e4, kd, ke⟩, ⟨sa, sb, sc, sd, se⟩, fun hw => ⟨za fun w hq => (hw w (by rw [(Prod.mk.inj hx).1]; simp [DataW.weights, DataW.weightsEach, ht, hq])), zb fun w hq => (hw w (by rw [(Prod.mk.inj hx).1]; simp [DataW.weights, DataW.weightsEach, ht, hq])), zc fun w hq => (hw w (by rw [(Prod.mk.inj hx).1]; simp [DataW.weights, DataW.weightsEach, ht, hq])), zd fun w hq => (hw w (by rw [(Prod.mk.inj hx).1]; simp [DataW.weights, DataW.weightsEach, ht, hq])), ze fun w hq => (hw w (by rw [(Prod.mk.inj hx).1]; simp [DataW.weights, DataW.weightsEach, ht, hq]))⟩⟩⟩
end
end Go.Bw
namespace Go.Bw
open Go Go.RowKit Go.Proofs
theorem Q292 {n : Int} {x : List Bs} {y : List Q3} {z : List Q4} {f : List Q2} (h : (Lit.int .i64 n).wf = true ∧ (x.length ≤ maxLen ∧ ∀ s ∈ x, s.length ≤ maxLen) ∧ (y.length ≤ maxLen ∧ ∀ e ∈ y, ((Lit.int .i64 e.From).wf = true ∧ (Lit.int .i64 e.Action).wf = true ∧ (Lit.int .i64 e.To).wf = true)) ∧
 (z.length ≤ maxLen ∧ ∀ p ∈ z, (p.Name.length ≤ maxLen ∧ (p.States.length ≤ maxLen ∧ ∀ s ∈ p.States, (Lit.int .i64 s).wf = true))))
 (w : True ∧ (x.length * Tryz.prog.bytesOf 9 ≤ reachBytes ∧ ∀ s ∈ x, True) ∧ (y.length * Tryz.prog.bytesOf 32 ≤ reachBytes ∧ ∀ e ∈ y, (True ∧ True ∧ True)) ∧ (z.length * Tryz.prog.bytesOf 35 ≤ reachBytes ∧ ∀ p ∈ z, (True ∧ (p.States.length * Tryz.prog.bytesOf 3 ≤ reachBytes ∧ ∀ s ∈ p.States, True))))
 (h2 : f.length ≤ maxLen ∧ ∀ e ∈ f, ((Lit.int .i64 e.Kind).wf = true ∧ (Lit.int .i64 e.A).wf = true ∧ (Lit.int .i64 e.B).wf = true ∧ e.Name.length ≤ maxLen ∧ (Lit.int .i64 e.At).wf = true))
 (w2 : f.length * Tryz.prog.bytesOf 51 ≤ reachBytes ∧ ∀ e ∈ f, (True ∧ True ∧ True ∧ True ∧ True)) :
 Q64.f n x y z f = some true := nodes_run n x y z f (fun p hp => by
 have h1 := (h.2.2.2.2 p hp).2.1
 have h2 : maxLen ≤ 9223372036854775807 := by decide
 omega) (fun p hp => by
 have h1 := (h2.2 p hp).2.2.2.1
 have h2 : maxLen ≤ 9223372036854775807 := by decide
 omega) (by
 have b : Tryz.prog.bytesOf 51 = 48 := by kernel_rfl
 have hr : reachBytes = 140737488351232 := rfl
 have := w2.1
 rw [b, hr] at this
 omega)
end Go.Bw
