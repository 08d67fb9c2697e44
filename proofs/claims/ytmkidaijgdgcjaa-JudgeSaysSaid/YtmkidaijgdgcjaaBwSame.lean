/- Walks: what the functions of the program compute, told by plain functions, and that the calls come to them. Conditions: none. -/
import Derived.Test.YtmkidaijgdgcjaaBwTyx
import Derived.Test.YtmkidaijgdgcjaaProg
import Derived.Test.YtmkidaijgdgcjaaBwLay
import Derived.Test.YtmkidaijgdgcjaaBwSortI
import Derived.Test.YtmkidaijgdgcjaaBwSortF
import Derived.Deep.QuietTactic
set_option linter.unusedVariables false
set_option linter.unusedSimpArgs false
set_option linter.unusedSectionVars false
namespace Go.Bw
open Go Go.RowKit Go.Proofs
noncomputable def bailiffref09_SameInts.l0b (a0 : List Int) (a1 : List Int) (x854 : Int) : Option ((Int) ⊕ ((Unit) ⊕ (Bool))) :=
  if x854 < (a0.length : Int) then
    if (0 : Int) ≤ x854 ∧ x854 < (a0.length : Int) then
      if (0 : Int) ≤ x854 ∧ x854 < (a1.length : Int) then
        if gt a0 x854 = gt a1 x854 then
          nx (IntKind.i64.wrap (x854 + 1))
        else
          upL (some false)
      else none
    else none
  else
    dn (.inl ())
noncomputable def bailiffref09_SameInts.l0 (a0 : List Int) (a1 : List Int) (x854 : Int) : Option ((Unit) ⊕ (Bool)) := iter (fun t_ : Int => bailiffref09_SameInts.l0b a0 a1 t_) x854
noncomputable def bailiffref09_SameInts.f (a0 : List Int) (a1 : List Int) : Option Bool :=
  if (a0.length : Int) = (a1.length : Int) then
    jn (bailiffref09_SameInts.l0 a0 a1 0) (fun (_ : Unit) =>
      some true)
  else
    some false
theorem bailiffref09_SameInts.callee : Callee Go.Proofs.Try.prog 20 := ⟨_, Go.Proofs.Try.func20, by kernel_rfl, by kernel_rfl⟩
set_option maxRecDepth 100000 in
set_option maxHeartbeats 2000000 in
theorem bailiffref09_SameInts.spec (R : Res) (Fr : List HProp) (A0 : Option Addr) (n0 : Nat) (c0 : Nat) (A1 : Option Addr) (n1 : Nat) (c1 : Nat) (a0 : List Int) (a1 : List Int) (hr0 : RdS (Fl.int .i64).rep R.heap A0 a0) (hn0 : a0.length = n0) (hc0 : n0 ≤ c0) (hr1 : RdS (Fl.int .i64).rep R.heap A1 a1) (hn1 : a1.length = n1) (hc1 : n1 ≤ c1) {r : Bool} (hrun : bailiffref09_SameInts.f a0 a1 = some r) :
    Spec Go.Proofs.Try.prog 20 [.slice A0 n0 c0, .slice A1 n1 c1] R (Fr) (fun v l' => v = .bool r ∧ Fr = l') := by
  subst hn0; subst hn1; refine Spec.of Go.Proofs.Try.func20 rfl rfl ?_; unfold bailiffref09_SameInts.f at hrun; have hrun := brun hrun; refine At.seq ?_; refine At.region ?_; refine At.run 1 rfl ?_; refine At.nil ?_; refine At.thn ?_; refine At.seq ?_; refine At.seq ?_; refine At.region ?_; refine At.run 5 rfl ?_; refine At.nil ?_; refine At.thn ?_; rcases bite hrun with ⟨h252, hrun⟩ | ⟨h252, hrun⟩
  · · refine At.condF rfl (nf (decide_eq_true h252)) ?_
      refine At.skip ?_; refine At.thn ?_; refine At.seq ?_; refine At.seq ?_; refine At.region ?_; refine At.run 1 rfl ?_; refine At.nil ?_; refine At.thn ?_; refine At.block ?_; obtain ⟨G1055, hl1056, hr1057, hrun⟩ := bjoin hrun; obtain ⟨o1058, hlo1059, ho1060⟩ := bsome hrun; clear hrun; unfold bailiffref09_SameInts.l0 at hlo1059; obtain ⟨m1061, hit1063⟩ := iter_some.1 hlo1059; clear hlo1059; refine At.loopJ (X := Int) (Y := Unit) (e0 := 0) (fun x854 => [(0, .slice A0 a0.length c0), (1, .slice A1 a1.length c1), (5, .int .i64 x854)]) (fun x854 => Fr) (fun m_ => fun x854 => iterN (fun t_ : Int => bailiffref09_SameInts.l0b a0 a1 t_) m_ x854 = some o1058) m1061 0 hit1063 (fun _ => []) (fun _ => Fr) (fun _ => G1055 (.inl ()) = some r) (fun a w e hs => ⟨e.sub ⟨rfl, rfl, rfl, trivial⟩, hs⟩) ?_ (fun J1065 => ?_)
      · rintro _ hrun; have hrun := (hl1056 _).symm.trans hrun
        · refine At.ibx ?_; refine At.thn ?_; refine At.seq ?_; refine At.region ?_; refine At.run 1 rfl ?_; refine At.nil ?_; refine At.thn ?_; refine At.ret ?_; obtain rfl := (bret hrun).symm; exact At.res (.inl rfl) rfl rfl ⟨rfl, rfl⟩
      · clear hit1063 m1061; rintro m1061 x854 hit1063; obtain ⟨m1062, f_, hlt1064, hf_, hrun⟩ := bit hit1063; clear hit1063; have hrun : (bailiffref09_SameInts.l0b a0 a1 x854).bind _ = some o1058 := hrun; unfold bailiffref09_SameInts.l0b at hrun
        · refine At.seq ?_; refine At.seq ?_; refine At.region ?_; refine At.run 4 rfl ?_; refine At.nil ?_; refine At.thn ?_; rcases bite hrun with ⟨h1066, hrun⟩ | ⟨h1066, hrun⟩
          · · refine At.condT rfl (decide_eq_true h1066) ?_
              refine At.skip ?_; refine At.thn ?_; refine At.seq ?_; refine At.block ?_; refine At.seq ?_; refine At.quiet (by kernel_rfl) ?_; refine At.Quiet.run 2 rfl ?_; obtain ⟨h1067, hrun⟩ := bnone hrun; refine At.Quiet.y (Y.ixRd hr0 rfl rfl rfl rfl rfl rfl rfl h1067.1 h1067.2) rfl rfl rfl ?_; refine At.Quiet.y (Y.ldFl hr0 rfl (q := 0) rfl rfl h1067.1 h1067.2 rfl rfl rfl) rfl rfl rfl ?_; refine At.Quiet.run 2 rfl ?_; obtain ⟨h1068, hrun⟩ := bnone hrun; refine At.Quiet.y (Y.ixRd hr1 rfl rfl rfl rfl rfl rfl rfl h1068.1 h1068.2) rfl rfl rfl ?_; refine At.Quiet.y (Y.ldFl hr1 rfl (q := 0) rfl rfl h1068.1 h1068.2 rfl rfl rfl) rfl rfl rfl ?_; refine At.Quiet.run 1 rfl ?_; refine At.Quiet.nil ?_; refine At.thn ?_; rcases bite hrun with ⟨h1069, hrun⟩ | ⟨h1069, hrun⟩
              · · refine At.condF rfl (nf (decide_eq_true h1069)) ?_
                  refine At.skip ?_; refine At.ibn ?_; refine At.thn ?_; refine At.region ?_; refine At.run 3 rfl ?_; refine At.nil ?_; have hrun := bnx hf_ hrun; exact fun a w e hs => ⟨m1062, (IntKind.i64.wrap (x854 + 1)), hlt1064, hrun, e.sub ⟨rfl, rfl, rfl, trivial⟩, hs⟩
              · · refine At.condT rfl (nt (decide_eq_false h1069)) ?_
                  refine At.seq ?_; refine At.region ?_; refine At.run 1 rfl ?_; refine At.nil ?_; refine At.thn ?_; refine At.ret ?_; refine At.ibr ?_; refine At.thr ?_; have hrun := bupL hr1057 ho1060 hrun; refine At.thr ?_; refine At.ibr ?_; refine At.thr ?_; obtain rfl := (bret hrun).symm; exact At.res (.inl rfl) rfl rfl ⟨rfl, rfl⟩
          · · refine At.condF rfl (decide_eq_false h1066) ?_
              refine At.exit ?_; refine At.the ?_; refine At.the ?_; exact fun a w e hs => J1065 () (bdn hrun ho1060) a w (e.sub trivial) hs
  · · refine At.condT rfl (nt (decide_eq_false h252)) ?_
      refine At.seq ?_; refine At.region ?_; refine At.run 1 rfl ?_; refine At.nil ?_; refine At.thn ?_; refine At.ret ?_; refine At.thr ?_; obtain rfl := (bret hrun).symm; exact At.res (.inl rfl) rfl rfl ⟨rfl, rfl⟩

end Go.Bw
