/- Walks: what the functions of the program compute, told by plain functions, and that the calls come to them. Conditions: none. -/
import Derived.Test.YtmkidaijgdgcjaaBwTyx
import Derived.Test.YtmkidaijgdgcjaaProg
import Derived.Test.YtmkidaijgdgcjaaBwLay
import Derived.Test.YtmkidaijgdgcjaaBwSortI
import Derived.Test.YtmkidaijgdgcjaaBwSortF
import Derived.Deep.QuietTactic
set_option linter.unusedVariables false
set_option linter.unusedSimpArgs false
set_option linter.unusedSectionVars false
namespace Go.Bw
open Go Go.RowKit Go.Proofs
noncomputable def bailiffref15_of.f (a0 : List Int) (a1 : Int) : Option Int :=
  if (a0.length : Int) ≤ a1 then
    some 0
  else
    if (0 : Int) ≤ a1 ∧ a1 < (a0.length : Int) then
      some (gt a0 a1)
    else none
theorem bailiffref15_of.callee : Callee Go.Proofs.Try.prog 41 := ⟨_, Go.Proofs.Try.func41, by kernel_rfl, by kernel_rfl⟩
set_option maxRecDepth 100000 in
set_option maxHeartbeats 2000000 in
theorem bailiffref15_of.spec (R : Res) (Fr : List HProp) (A0 : Option Addr) (n0 : Nat) (c0 : Nat) (a0 : List Int) (a1 : Int) (hr0 : RdS (Fl.int .i64).rep R.heap A0 a0) (hn0 : a0.length = n0) (hc0 : n0 ≤ c0) {r : Int} (hrun : bailiffref15_of.f a0 a1 = some r) :
    Spec Go.Proofs.Try.prog 41 [.slice A0 n0 c0, .int .i64 a1] R (Fr) (fun v l' => v = .int .i64 r ∧ Fr = l') := by
  subst hn0
  refine Spec.of Go.Proofs.Try.func41 rfl rfl ?_
  unfold bailiffref15_of.f at hrun
  have hrun := brun hrun
  refine At.seq ?_
  refine At.region ?_
  refine At.run 1 rfl ?_
  refine At.nil ?_
  refine At.thn ?_
  refine At.seq ?_
  refine At.seq ?_
  refine At.region ?_
  refine At.run 4 rfl ?_
  refine At.nil ?_
  refine At.thn ?_
  rcases bite hrun with ⟨h252, hrun⟩ | ⟨h252, hrun⟩
  · · refine At.condT rfl (decide_eq_true h252) ?_
      refine At.seq ?_
      refine At.region ?_
      refine At.run 1 rfl ?_
      refine At.nil ?_
      refine At.thn ?_
      refine At.ret ?_
      refine At.thr ?_
      obtain rfl := (bret hrun).symm
      exact At.res (.inl rfl) rfl rfl ⟨rfl, rfl⟩
  · · refine At.condF rfl (decide_eq_false h252) ?_
      refine At.skip ?_
      refine At.thn ?_
      refine At.seq ?_
      refine At.region ?_
      refine At.run 2 rfl ?_
      obtain ⟨h253, hrun⟩ := bnone hrun
      refine At.y (Y.ixRd hr0 rfl rfl rfl rfl rfl rfl rfl h253.1 h253.2) rfl rfl rfl ?_
      refine At.y (Y.ldFl hr0 rfl (q := 0) rfl rfl h253.1 h253.2 rfl rfl rfl) rfl rfl rfl ?_
      refine At.run 1 rfl ?_
      refine At.nil ?_
      refine At.thn ?_
      refine At.ret ?_
      obtain rfl := (bret hrun).symm
      exact At.res (.inl rfl) rfl rfl ⟨rfl, rfl⟩

noncomputable def bailiffref15_Reach.l1b (a0 : List (List Int)) (a2 : List Bool) (x872 : List Int) (x1705 : List Int) (x1710 : List Bool) (x1711 : Int) : Option (((List Int) × (List Bool) × Int) ⊕ (((List Int) × (List Bool)) ⊕ (((List Int) × (List Bool)) ⊕ (((List Int) × (List Bool)) ⊕ ((List Bool)))))) :=
  if (0 : Int) ≤ gt x872 (IntKind.i64.wrap ((x872.length : Int) - 1)) ∧ gt x872 (IntKind.i64.wrap ((x872.length : Int) - 1)) < (a0.length : Int) then
    if x1711 < ((gt a0 (gt x872 (IntKind.i64.wrap ((x872.length : Int) - 1)))).length : Int) then
      jn (
        if (0 : Int) ≤ x1711 ∧ x1711 < ((gt a0 (gt x872 (IntKind.i64.wrap ((x872.length : Int) - 1)))).length : Int) then
          jn (
            if 0 ≤ gt (gt a0 (gt x872 (IntKind.i64.wrap ((x872.length : Int) - 1)))) x1711 then
              some (.inl (decide (gt (gt a0 (gt x872 (IntKind.i64.wrap ((x872.length : Int) - 1)))) x1711 < (a0.length : Int))))
            else
              some (.inl false)) (fun (x2352 : Bool) =>
            jn (
              if x2352 = true then
                if (0 : Int) ≤ gt (gt a0 (gt x872 (IntKind.i64.wrap ((x872.length : Int) - 1)))) x1711 ∧ gt (gt a0 (gt x872 (IntKind.i64.wrap ((x872.length : Int) - 1)))) x1711 < (a2.length : Int) then
                  some (.inl (gt a2 (gt (gt a0 (gt x872 (IntKind.i64.wrap ((x872.length : Int) - 1)))) x1711)))
                else none
              else
                some (.inl false)) (fun (x2557 : Bool) =>
              jn (
                if x2557 = true then
                  if (0 : Int) ≤ gt (gt a0 (gt x872 (IntKind.i64.wrap ((x872.length : Int) - 1)))) x1711 ∧ gt (gt a0 (gt x872 (IntKind.i64.wrap ((x872.length : Int) - 1)))) x1711 < ((List.replicate (a0.length : Int).toNat (false : Bool)).length : Int) then
                    some (.inl (!(gt x1710 (gt (gt a0 (gt x872 (IntKind.i64.wrap ((x872.length : Int) - 1)))) x1711))))
                  else none
                else
                  some (.inl false)) (fun (x2762 : Bool) =>
                if x2762 = true then
                  if (0 : Int) ≤ gt (gt a0 (gt x872 (IntKind.i64.wrap ((x872.length : Int) - 1)))) x1711 ∧ gt (gt a0 (gt x872 (IntKind.i64.wrap ((x872.length : Int) - 1)))) x1711 < ((List.replicate (a0.length : Int).toNat (false : Bool)).length : Int) then
                    if (x1705.length + ([(gt (gt a0 (gt x872 (IntKind.i64.wrap ((x872.length : Int) - 1)))) x1711)] : List Int).length) * 8 ≤ 140737488355328 then
                      some (.inl ((x1705 ++ ([(gt (gt a0 (gt x872 (IntKind.i64.wrap ((x872.length : Int) - 1)))) x1711)] : List Int)), (st x1710 (gt (gt a0 (gt x872 (IntKind.i64.wrap ((x872.length : Int) - 1)))) x1711) true)))
                    else none
                  else none
                else
                  some (.inl (x1705, x1710)))))
        else none) (fun (s_ : (List Int) × (List Bool)) =>
        nx (s_.1, s_.2, IntKind.i64.wrap (x1711 + 1)))
    else
      dn (.inl (x1705, x1710))
  else none
noncomputable def bailiffref15_Reach.l1 (a0 : List (List Int)) (a2 : List Bool) (x872 : List Int) (x1705 : List Int) (x1710 : List Bool) (x1711 : Int) : Option (((List Int) × (List Bool)) ⊕ (((List Int) × (List Bool)) ⊕ (((List Int) × (List Bool)) ⊕ ((List Bool))))) := iter (fun t_ : (List Int) × (List Bool) × Int => bailiffref15_Reach.l1b a0 a2 x872 t_.1 t_.2.1 t_.2.2) (x1705, x1710, x1711)
noncomputable def bailiffref15_Reach.l0b (a0 : List (List Int)) (a2 : List Bool) (x872 : List Int) (x877 : List Bool) : Option (((List Int) × (List Bool)) ⊕ (((List Int) × (List Bool)) ⊕ ((List Bool)))) :=
  if 0 < (x872.length : Int) then
    if (0 : Int) ≤ IntKind.i64.wrap ((x872.length : Int) - 1) ∧ IntKind.i64.wrap ((x872.length : Int) - 1) < (x872.length : Int) then
      if (0 : Int) ≤ IntKind.i64.wrap ((x872.length : Int) - 1) ∧ IntKind.i64.wrap ((x872.length : Int) - 1) ≤ (x872.length : Int) then
        jn (bailiffref15_Reach.l1 a0 a2 x872 (x872.take (IntKind.i64.wrap ((x872.length : Int) - 1)).toNat) x877 0) (fun (s_ : (List Int) × (List Bool)) =>
          nx (s_.1, s_.2))
      else none
    else none
  else
    dn (.inl (x872, x877))
noncomputable def bailiffref15_Reach.l0 (a0 : List (List Int)) (a2 : List Bool) (x872 : List Int) (x877 : List Bool) : Option (((List Int) × (List Bool)) ⊕ ((List Bool))) := iter (fun t_ : (List Int) × (List Bool) => bailiffref15_Reach.l0b a0 a2 t_.1 t_.2) (x872, x877)
noncomputable def bailiffref15_Reach.f (a0 : List (List Int)) (a1 : Int) (a2 : List Bool) : Option (List Bool) :=
  if (0 : Int) ≤ (a0.length : Int) ∧ (1 : Int) * (a0.length : Int) ≤ 281474976710656 then
    jn (bailiffref15_Reach.l0 a0 a2 ([a1] : List Int) (List.replicate (a0.length : Int).toNat (false : Bool))) (fun (s_ : (List Int) × (List Bool)) =>
      some s_.2)
  else none
theorem bailiffref15_Reach.callee : Callee Go.Proofs.Try.prog 35 := ⟨_, Go.Proofs.Try.func35, by kernel_rfl, by kernel_rfl⟩
set_option maxRecDepth 100000 in
set_option maxHeartbeats 2000000 in
theorem bailiffref15_Reach.spec (R : Res) (Fr : List HProp) (A0 : Option Addr) (n0 : Nat) (c0 : Nat) (A2 : Option Addr) (n2 : Nat) (c2 : Nat) (a0 : List (List Int)) (a1 : Int) (a2 : List Bool) (hr0 : RdS ((Fl.int .i64).rep).slice R.heap A0 a0) (hn0 : a0.length = n0) (hc0 : n0 ≤ c0) (hr2 : RdS Fl.bool.rep R.heap A2 a2) (hn2 : a2.length = n2) (hc2 : n2 ≤ c2) {r : (List Bool)} (hrun : bailiffref15_Reach.f a0 a1 a2 = some r) :
    Spec Go.Proofs.Try.prog 35 [.slice A0 n0 c0, .int .i64 a1, .slice A2 n2 c2] R (Fr) (fun v l' => ∃ (w257 : Option Addr) (w258 : Nat), v = .slice w257 ((List.replicate (n0 : Int).toNat (false : Bool)).length) w258 ∧ row Fl.bool 4 w257 ((List.replicate (n0 : Int).toNat (false : Bool)).length) w258 r :: Fr = l') := by
  subst hn0
  subst hn2
  refine Spec.of Go.Proofs.Try.func35 rfl rfl ?_
  unfold bailiffref15_Reach.f at hrun
  have hrun := brun hrun
  refine At.seq ?_
  refine At.region ?_
  refine At.run 1 rfl ?_
  refine At.nil ?_
  refine At.thn ?_
  refine At.seq ?_
  refine At.region ?_
  refine At.run 3 rfl ?_
  refine At.nil ?_
  refine At.thn ?_
  refine At.seq ?_
  refine At.region ?_
  refine At.run 1 rfl ?_
  obtain ⟨h259, hrun⟩ := bnone hrun
  refine At.make (F := Fl.bool) (z := false) rfl rfl rfl rfl rfl rfl rfl rfl rfl rfl h259.1 h259.2 (by decide) rfl (fun A260 c261 => ?_)
  refine At.run 1 rfl ?_
  refine At.nil ?_
  refine At.thn ?_
  refine At.seq ?_
  refine At.region ?_
  refine At.run 1 rfl ?_
  refine At.lit rfl (xo := [.tmp 17]) (ys := ([a1] : List Int)) (Fl.int .i64) rfl rfl rfl rfl rfl rfl rfl rfl rfl rfl rfl (fun A263 c264 => ?_)
  refine At.run 1 rfl ?_
  refine At.nil ?_
  refine At.thn ?_
  refine At.seq ?_
  refine At.block ?_
  obtain ⟨G1084, hl1085, hr1086, hrun⟩ := bjoin hrun
  obtain ⟨o1087, hlo1088, ho1089⟩ := bsome hrun
  clear hrun
  unfold bailiffref15_Reach.l0 at hlo1088
  obtain ⟨m1090, hit1092⟩ := iter_some.1 hlo1088
  clear hlo1088
  refine At.loopJ (X := (List Int) × (List Bool) × Nat × (Option Addr) × Nat) (Y := (List Int) × (List Bool) × Nat × (Option Addr) × Nat) (e0 := 0) (fun s_ => [(0, .slice A0 a0.length c0), (2, .slice A2 a2.length c2), (7, .int .i64 (a0.length : Int)), (8, .slice A260 ((List.replicate (a0.length : Int).toNat (false : Bool)).length) c261), (9, .slice s_.2.2.2.1 s_.2.2.1 s_.2.2.2.2)]) (fun s_ => row (Fl.int .i64) 3 s_.2.2.2.1 s_.2.2.1 s_.2.2.2.2 s_.1 :: row Fl.bool 4 A260 ((List.replicate (a0.length : Int).toNat (false : Bool)).length) c261 s_.2.1 :: Fr) (fun m_ => fun s_ => iterN (fun t_ : (List Int) × (List Bool) => bailiffref15_Reach.l0b a0 a2 t_.1 t_.2) m_ (s_.1, s_.2.1) = some o1087 ∧ s_.1.length = s_.2.2.1) m1090 (([a1] : List Int), (List.replicate (a0.length : Int).toNat (false : Bool)), ([a1] : List Int).length, A263, c264) ⟨hit1092, rfl⟩ (fun s_ => [(8, .slice A260 ((List.replicate (a0.length : Int).toNat (false : Bool)).length) c261)]) (fun s_ => row (Fl.int .i64) 3 s_.2.2.2.1 s_.2.2.1 s_.2.2.2.2 s_.1 :: row Fl.bool 4 A260 ((List.replicate (a0.length : Int).toNat (false : Bool)).length) c261 s_.2.1 :: Fr) (fun s_ => G1084 (.inl (s_.1, s_.2.1)) = some r ∧ s_.1.length = s_.2.2.1) (fun a w e hs => ⟨e.sub ⟨rfl, rfl, rfl, rfl, rfl, trivial⟩, hs⟩) ?_ (fun J1094 => ?_)
  · rintro ⟨x1078, x1083, w1079, w1081, w1082⟩ ⟨hrun, hn1080⟩
    obtain rfl : x1078.length = w1079 := hn1080
    have hrun := (hl1085 _).symm.trans hrun
    · refine At.ibx ?_
      refine At.thn ?_
      refine At.seq ?_
      refine At.region ?_
      refine At.run 2 rfl ?_
      refine At.nil ?_
      refine At.thn ?_
      refine At.ret ?_
      refine At.drop .z ?_
      obtain rfl := (bret hrun).symm
      exact At.res (.inl rfl) rfl rfl ⟨A260, c261, rfl, rfl⟩
  · clear hit1092 m1090
    rintro m1090 ⟨x872, x877, w873, w875, w876⟩ ⟨hit1092, hn874⟩
    obtain rfl : x872.length = w873 := hn874
    obtain ⟨m1091, f_, hlt1093, hf_, hrun⟩ := bit hit1092
    clear hit1092
    have hrun : (bailiffref15_Reach.l0b a0 a2 x872 x877).bind _ = some o1087 := hrun
    unfold bailiffref15_Reach.l0b at hrun
    · refine At.seq ?_
      refine At.seq ?_
      refine At.region ?_
      refine At.run 3 rfl ?_
      refine At.nil ?_
      refine At.thn ?_
      rcases bite hrun with ⟨h1095, hrun⟩ | ⟨h1095, hrun⟩
      · · refine At.condT rfl (decide_eq_true h1095) ?_
          refine At.skip ?_
          refine At.thn ?_
          refine At.block ?_
          refine At.seq ?_
          refine At.region ?_
          refine At.run 4 rfl ?_
          obtain ⟨h1096, hrun⟩ := bnone hrun
          refine At.y (Y.ix .z rfl rfl rfl rfl rfl rfl h1096.1 h1096.2) rfl rfl rfl ?_
          refine At.y (Y.ld .z (q := 0) rfl rfl h1096.1 h1096.2 rfl rfl rfl) rfl rfl rfl ?_
          refine At.run 1 rfl ?_
          refine At.nil ?_
          refine At.thn ?_
          refine At.seq ?_
          refine At.region ?_
          refine At.run 4 rfl ?_
          obtain ⟨h1097, hrun⟩ := bnone hrun
          refine At.cut rfl .z rfl rfl rfl rfl rfl h1097.1 h1097.2 rfl ?_
          refine At.run 1 rfl ?_
          refine At.nil ?_
          refine At.thn ?_
          refine At.seq ?_
          refine At.region ?_
          refine At.run 1 rfl ?_
          refine At.nil ?_
          refine At.thn ?_
          refine At.block ?_
          obtain ⟨G1918, hl1919, hr1920, hrun⟩ := bjoin hrun
          obtain ⟨o1921, hlo1922, ho1923⟩ := bsome hrun
          clear hrun
          unfold bailiffref15_Reach.l1 at hlo1922
          obtain ⟨m1924, hit1926⟩ := iter_some.1 hlo1922
          clear hlo1922
          refine At.loopJ (X := (List Int) × (List Bool) × Int × Nat × (Option Addr) × Nat) (Y := (List Int) × (List Bool) × Nat × (Option Addr) × Nat) (e0 := 2) (fun s_ => [(0, .slice A0 a0.length c0), (2, .slice A2 a2.length c2), (7, .int .i64 (a0.length : Int)), (8, .slice A260 ((List.replicate (a0.length : Int).toNat (false : Bool)).length) c261), (9, .slice s_.2.2.2.2.1 s_.2.2.2.1 s_.2.2.2.2.2), (10, .int .i64 (gt x872 (IntKind.i64.wrap ((x872.length : Int) - 1)))), (11, .int .i64 s_.2.2.1)]) (fun s_ => row (Fl.int .i64) 3 s_.2.2.2.2.1 s_.2.2.2.1 s_.2.2.2.2.2 s_.1 :: row Fl.bool 4 A260 ((List.replicate (a0.length : Int).toNat (false : Bool)).length) c261 s_.2.1 :: Fr) (fun m_ => fun s_ => iterN (fun t_ : (List Int) × (List Bool) × Int => bailiffref15_Reach.l1b a0 a2 x872 t_.1 t_.2.1 t_.2.2) m_ (s_.1, s_.2.1, s_.2.2.1) = some o1921 ∧ s_.1.length = s_.2.2.2.1) m1924 ((x872.take (IntKind.i64.wrap ((x872.length : Int) - 1)).toNat), x877, 0, (x872.take (IntKind.i64.wrap ((x872.length : Int) - 1)).toNat).length, w875, w876) ⟨hit1926, rfl⟩ (fun s_ => [(0, .slice A0 a0.length c0), (2, .slice A2 a2.length c2), (7, .int .i64 (a0.length : Int)), (8, .slice A260 ((List.replicate (a0.length : Int).toNat (false : Bool)).length) c261), (9, .slice s_.2.2.2.1 s_.2.2.1 s_.2.2.2.2)]) (fun s_ => row (Fl.int .i64) 3 s_.2.2.2.1 s_.2.2.1 s_.2.2.2.2 s_.1 :: row Fl.bool 4 A260 ((List.replicate (a0.length : Int).toNat (false : Bool)).length) c261 s_.2.1 :: Fr) (fun s_ => G1918 (.inl (s_.1, s_.2.1)) = some o1087 ∧ s_.1.length = s_.2.2.1) (fun a w e hs => ⟨e.sub ⟨rfl, rfl, rfl, rfl, rfl, rfl, rfl, trivial⟩, hs⟩) ?_ (fun J1928 => ?_)
          · rintro ⟨x1912, x1917, w1913, w1915, w1916⟩ ⟨hrun, hn1914⟩
            obtain rfl : x1912.length = w1913 := hn1914
            have hrun := (hl1919 _).symm.trans hrun
            · refine At.ibx ?_
              refine At.ibn ?_
              have hrun := bnx hf_ hrun
              exact fun a w e hs => ⟨m1091, (x1912, x1917, x1912.length, w1915, w1916), hlt1093, ⟨hrun, rfl⟩, e.sub ⟨rfl, rfl, rfl, rfl, rfl, trivial⟩, hs⟩
          · clear hit1926 m1924
            rintro m1924 ⟨x1705, x1710, x1711, w1706, w1708, w1709⟩ ⟨hit1926, hn1707⟩
            obtain rfl : x1705.length = w1706 := hn1707
            obtain ⟨m1925, f_, hlt1927, hf_, hrun⟩ := bit hit1926
            clear hit1926
            have hrun : (bailiffref15_Reach.l1b a0 a2 x872 x1705 x1710 x1711).bind _ = some o1921 := hrun
            unfold bailiffref15_Reach.l1b at hrun
            · refine At.seq ?_
              refine At.seq ?_
              refine At.region ?_
              refine At.run 3 rfl ?_
              obtain ⟨h1929, hrun⟩ := bnone hrun
              refine At.y (Y.ixRd hr0 rfl rfl rfl rfl rfl rfl rfl h1929.1 h1929.2) rfl rfl rfl ?_
              obtain ⟨A1930, c1931, hc1932, hr1933, hy1934⟩ := RdS.rowAt (P := Go.Proofs.Try.prog) hr0 (Sub.refl _) rfl h1929.1 h1929.2
              refine At.y (hy1934 rfl rfl rfl rfl) rfl rfl rfl ?_
              refine At.run 2 rfl ?_
              refine At.nil ?_
              refine At.thn ?_
              rcases bite hrun with ⟨h1935, hrun⟩ | ⟨h1935, hrun⟩
              · · refine At.condT rfl (decide_eq_true h1935) ?_
                  refine At.skip ?_
                  refine At.thn ?_
                  refine At.seq ?_
                  obtain ⟨G1936, hl1937, hr1938, hrun⟩ := bjoin hrun
                  refine At.join (X := (List Int) × (List Bool) × Nat × (Option Addr) × Nat) (fun s_ => [(0, .slice A0 a0.length c0), (2, .slice A2 a2.length c2), (7, .int .i64 (a0.length : Int)), (8, .slice A260 ((List.replicate (a0.length : Int).toNat (false : Bool)).length) c261), (9, .slice s_.2.2.2.1 s_.2.2.1 s_.2.2.2.2), (10, .int .i64 (gt x872 (IntKind.i64.wrap ((x872.length : Int) - 1)))), (11, .int .i64 x1711)]) (fun s_ => row (Fl.int .i64) 3 s_.2.2.2.1 s_.2.2.1 s_.2.2.2.2 s_.1 :: row Fl.bool 4 A260 ((List.replicate (a0.length : Int).toNat (false : Bool)).length) c261 s_.2.1 :: Fr) (fun s_ => G1936 (.inl (s_.1, s_.2.1)) = some o1921 ∧ s_.1.length = s_.2.2.1) ?_ (fun J1939 => ?_)
                  · rintro ⟨x2140, x2145, w2141, w2143, w2144⟩ ⟨hrun, hn2142⟩
                    obtain rfl : x2140.length = w2141 := hn2142
                    have hrun := (hl1937 _).symm.trans hrun
                    · refine At.region ?_
                      refine At.run 3 rfl ?_
                      refine At.nil ?_
                      have hrun := bnx hf_ hrun
                      exact fun a w e hs => ⟨m1925, (x2140, x2145, IntKind.i64.wrap (x1711 + 1), x2140.length, w2143, w2144), hlt1927, ⟨hrun, rfl⟩, e.sub ⟨rfl, rfl, rfl, rfl, rfl, rfl, rfl, trivial⟩, hs⟩
                  · · refine At.block ?_
                      refine At.seq ?_
                      refine At.region ?_
                      refine At.run 2 rfl ?_
                      refine At.y (Y.ixRd hr0 rfl rfl rfl rfl rfl rfl rfl h1929.1 h1929.2) rfl rfl rfl ?_
                      obtain ⟨A2146, c2147, hc2148, hr2149, hy2150⟩ := RdS.rowAt (P := Go.Proofs.Try.prog) hr0 (Sub.refl _) rfl h1929.1 h1929.2
                      refine At.y (hy2150 rfl rfl rfl rfl) rfl rfl rfl ?_
                      refine At.run 1 rfl ?_
                      obtain ⟨h2151, hrun⟩ := bnone hrun
                      refine At.y (Y.ixRd hr2149 rfl rfl rfl rfl rfl rfl rfl h2151.1 h2151.2) rfl rfl rfl ?_
                      refine At.y (Y.ldFl hr2149 rfl (q := 0) rfl rfl h2151.1 h2151.2 rfl rfl rfl) rfl rfl rfl ?_
                      refine At.run 1 rfl ?_
                      refine At.nil ?_
                      refine At.thn ?_
                      refine At.seq ?_
                      refine At.region ?_
                      refine At.run 3 rfl ?_
                      obtain ⟨G2353, hl2354, hr2355, hrun⟩ := bjoin hrun
                      refine At.joinO 4 (X := Bool) (fun x2352 => [(0, .slice A0 a0.length c0), (2, .slice A2 a2.length c2), (7, .int .i64 (a0.length : Int)), (8, .slice A260 ((List.replicate (a0.length : Int).toNat (false : Bool)).length) c261), (9, .slice w1708 x1705.length w1709), (10, .int .i64 (gt x872 (IntKind.i64.wrap ((x872.length : Int) - 1)))), (11, .int .i64 x1711), (12, .int .i64 (gt (gt a0 (gt x872 (IntKind.i64.wrap ((x872.length : Int) - 1)))) x1711)), (55, .bool x2352)]) (fun x2352 => row (Fl.int .i64) 3 w1708 x1705.length w1709 x1705 :: row Fl.bool 4 A260 ((List.replicate (a0.length : Int).toNat (false : Bool)).length) c261 x1710 :: Fr) (fun x2352 => G2353 (.inl x2352) = some o1921) ?_ (fun J2356 => ?_)
                      · rintro x2352 hrun
                        have hrun := (hl2354 _).symm.trans hrun
                        · refine At.run 1 rfl ?_
                          obtain ⟨G2558, hl2559, hr2560, hrun⟩ := bjoin hrun
                          refine At.joinO 5 (X := Bool) (fun x2557 => [(0, .slice A0 a0.length c0), (2, .slice A2 a2.length c2), (7, .int .i64 (a0.length : Int)), (8, .slice A260 ((List.replicate (a0.length : Int).toNat (false : Bool)).length) c261), (9, .slice w1708 x1705.length w1709), (10, .int .i64 (gt x872 (IntKind.i64.wrap ((x872.length : Int) - 1)))), (11, .int .i64 x1711), (12, .int .i64 (gt (gt a0 (gt x872 (IntKind.i64.wrap ((x872.length : Int) - 1)))) x1711)), (61, .bool x2557)]) (fun x2557 => row (Fl.int .i64) 3 w1708 x1705.length w1709 x1705 :: row Fl.bool 4 A260 ((List.replicate (a0.length : Int).toNat (false : Bool)).length) c261 x1710 :: Fr) (fun x2557 => G2558 (.inl x2557) = some o1921) ?_ (fun J2561 => ?_)
                          · rintro x2557 hrun
                            have hrun := (hl2559 _).symm.trans hrun
                            · refine At.run 1 rfl ?_
                              obtain ⟨G2763, hl2764, hr2765, hrun⟩ := bjoin hrun
                              refine At.joinO 6 (X := Bool) (fun x2762 => [(0, .slice A0 a0.length c0), (2, .slice A2 a2.length c2), (7, .int .i64 (a0.length : Int)), (8, .slice A260 ((List.replicate (a0.length : Int).toNat (false : Bool)).length) c261), (9, .slice w1708 x1705.length w1709), (10, .int .i64 (gt x872 (IntKind.i64.wrap ((x872.length : Int) - 1)))), (11, .int .i64 x1711), (12, .int .i64 (gt (gt a0 (gt x872 (IntKind.i64.wrap ((x872.length : Int) - 1)))) x1711)), (68, .bool x2762)]) (fun x2762 => row (Fl.int .i64) 3 w1708 x1705.length w1709 x1705 :: row Fl.bool 4 A260 ((List.replicate (a0.length : Int).toNat (false : Bool)).length) c261 x1710 :: Fr) (fun x2762 => G2763 (.inl x2762) = some o1921) ?_ (fun J2766 => ?_)
                              · rintro x2762 hrun
                                have hrun := (hl2764 _).symm.trans hrun
                                · refine At.nil ?_
                                  refine At.thn ?_
                                  rcases bite hrun with ⟨h2767, hrun⟩ | ⟨h2767, hrun⟩
                                  · · refine At.condT rfl h2767 ?_
                                      refine At.seq ?_
                                      refine At.region ?_
                                      refine At.run 2 rfl ?_
                                      obtain ⟨h2768, hrun⟩ := bnone hrun
                                      refine At.y (Y.ix (.s .z) rfl rfl rfl rfl rfl rfl h2768.1 h2768.2) rfl rfl rfl ?_
                                      refine At.st rfl (.s .z) (q := 0) (z := true) rfl rfl rfl h2768.1 h2768.2 rfl rfl (.c .n) ?_
                                      refine At.nil ?_
                                      refine At.thn ?_
                                      refine At.region ?_
                                      refine At.run 2 rfl ?_
                                      refine At.lit rfl (xo := [.tmp 73]) (ys := ([(gt (gt a0 (gt x872 (IntKind.i64.wrap ((x872.length : Int) - 1)))) x1711)] : List Int)) (Fl.int .i64) rfl rfl rfl rfl rfl rfl rfl rfl rfl rfl rfl (fun A2769 c2770 => ?_)
                                      obtain ⟨h2772, hrun⟩ := bnone hrun
                                      refine At.append rfl (.s (.s .z)) (Src.own .z (by simp)) rfl rfl rfl rfl rfl rfl rfl rfl h2772 (by decide) rfl (fun A2773 c2774 => ?_)
                                      refine At.drop (.s .z) ?_
                                      refine At.run 1 rfl ?_
                                      refine At.nil ?_
                                      refine At.ibn ?_
                                      refine At.thn ?_
                                      exact fun a w e hs => J1939 ((x1705 ++ ([(gt (gt a0 (gt x872 (IntKind.i64.wrap ((x872.length : Int) - 1)))) x1711)] : List Int)), (st x1710 (gt (gt a0 (gt x872 (IntKind.i64.wrap ((x872.length : Int) - 1)))) x1711) true), (x1705 ++ ([(gt (gt a0 (gt x872 (IntKind.i64.wrap ((x872.length : Int) - 1)))) x1711)] : List Int)).length, A2773, c2774) ⟨hrun, rfl⟩ a w (e.sub ⟨rfl, rfl, rfl, rfl, rfl, rfl, rfl, trivial⟩) hs
                                  · · refine At.condF rfl (bn h2767) ?_
                                      refine At.skip ?_
                                      refine At.ibn ?_
                                      refine At.thn ?_
                                      exact fun a w e hs => J1939 (x1705, x1710, x1705.length, w1708, w1709) ⟨hrun, rfl⟩ a w (e.sub ⟨rfl, rfl, rfl, rfl, rfl, rfl, rfl, trivial⟩) hs
                              · · rcases bite hrun with ⟨h2775, hrun⟩ | ⟨h2775, hrun⟩
                                  · · refine At.know (t := 62) rfl h2775 ?_
                                      refine At.run 2 rfl ?_
                                      obtain ⟨h2776, hrun⟩ := bnone hrun
                                      refine At.y (Y.ix (.s .z) rfl rfl rfl rfl rfl rfl h2776.1 h2776.2) rfl rfl rfl ?_
                                      refine At.y (Y.ld (.s .z) (q := 0) rfl rfl h2776.1 h2776.2 rfl rfl rfl) rfl rfl rfl ?_
                                      refine At.run 2 rfl ?_
                                      exact At.of (J2766 (!(gt x1710 (gt (gt a0 (gt x872 (IntKind.i64.wrap ((x872.length : Int) - 1)))) x1711))) hrun) ⟨rfl, rfl, rfl, rfl, rfl, rfl, rfl, rfl, rfl, trivial⟩
                                  · · refine At.know (t := 62) rfl (bn h2775) ?_
                                      refine At.run 6 rfl ?_
                                      exact At.of (J2766 false hrun) ⟨rfl, rfl, rfl, rfl, rfl, rfl, rfl, rfl, rfl, trivial⟩
                          · · rcases bite hrun with ⟨h2777, hrun⟩ | ⟨h2777, hrun⟩
                              · · refine At.know (t := 56) rfl h2777 ?_
                                  refine At.run 2 rfl ?_
                                  obtain ⟨h2778, hrun⟩ := bnone hrun
                                  refine At.y (Y.ixRd hr2 rfl rfl rfl rfl rfl rfl rfl h2778.1 h2778.2) rfl rfl rfl ?_
                                  refine At.y (Y.ldFl hr2 rfl (q := 0) rfl rfl h2778.1 h2778.2 rfl rfl rfl) rfl rfl rfl ?_
                                  refine At.run 1 rfl ?_
                                  exact At.of (J2561 (gt a2 (gt (gt a0 (gt x872 (IntKind.i64.wrap ((x872.length : Int) - 1)))) x1711)) hrun) ⟨rfl, rfl, rfl, rfl, rfl, rfl, rfl, rfl, rfl, trivial⟩
                              · · refine At.know (t := 56) rfl (bn h2777) ?_
                                  refine At.run 5 rfl ?_
                                  exact At.of (J2561 false hrun) ⟨rfl, rfl, rfl, rfl, rfl, rfl, rfl, rfl, rfl, trivial⟩
                      · · rcases bite hrun with ⟨h2779, hrun⟩ | ⟨h2779, hrun⟩
                          · · refine At.know (t := 51) rfl (decide_eq_true h2779) ?_
                              refine At.run 4 rfl ?_
                              exact At.of (J2356 (decide (gt (gt a0 (gt x872 (IntKind.i64.wrap ((x872.length : Int) - 1)))) x1711 < (a0.length : Int))) hrun) ⟨rfl, rfl, rfl, rfl, rfl, rfl, rfl, rfl, rfl, trivial⟩
                          · · refine At.know (t := 51) rfl (decide_eq_false h2779) ?_
                              refine At.run 4 rfl ?_
                              exact At.of (J2356 false hrun) ⟨rfl, rfl, rfl, rfl, rfl, rfl, rfl, rfl, rfl, trivial⟩
              · · refine At.condF rfl (decide_eq_false h1935) ?_
                  refine At.exit ?_
                  refine At.the ?_
                  refine At.the ?_
                  exact fun a w e hs => J1928 (x1705, x1710, x1705.length, w1708, w1709) ⟨(bdn hrun ho1923), rfl⟩ a w (e.sub ⟨rfl, rfl, rfl, rfl, rfl, trivial⟩) hs
      · · refine At.condF rfl (decide_eq_false h1095) ?_
          refine At.exit ?_
          refine At.the ?_
          refine At.the ?_
          exact fun a w e hs => J1094 (x872, x877, x872.length, w875, w876) ⟨(bdn hrun ho1089), rfl⟩ a w (e.sub ⟨rfl, trivial⟩) hs

noncomputable def bailiffref15_Tops.l0b (a0 : List (List Int)) (a1 : List Int) (a2 : Int) (x864 : List Bool) (x865 : Int) : Option (((List Bool) × Int) ⊕ (((List Bool)) ⊕ (Bool))) :=
  if x865 < (a0.length : Int) then
    (bailiffref15_of.f a1 x865).bind fun t1091 =>
      (bailiffref15_of.f a1 a2).bind fun t1093 =>
        if (0 : Int) ≤ x865 ∧ x865 < ((List.replicate (a0.length : Int).toNat (false : Bool)).length : Int) then
          nx ((st x864 x865 (decide (t1091 ≤ t1093))), IntKind.i64.wrap (x865 + 1))
        else none
  else
    dn (.inl x864)
noncomputable def bailiffref15_Tops.l0 (a0 : List (List Int)) (a1 : List Int) (a2 : Int) (x864 : List Bool) (x865 : Int) : Option (((List Bool)) ⊕ (Bool)) := iter (fun t_ : (List Bool) × Int => bailiffref15_Tops.l0b a0 a1 a2 t_.1 t_.2) (x864, x865)
noncomputable def bailiffref15_Tops.f (a0 : List (List Int)) (a1 : List Int) (a2 : Int) : Option Bool :=
  if (0 : Int) ≤ (a0.length : Int) ∧ (1 : Int) * (a0.length : Int) ≤ 281474976710656 then
    jn (bailiffref15_Tops.l0 a0 a1 a2 (List.replicate (a0.length : Int).toNat (false : Bool)) 0) (fun (x1066 : List Bool) =>
      (bailiffref15_Reach.f a0 a2 x1066).bind fun t1084 =>
        if (0 : Int) ≤ a2 ∧ a2 < ((List.replicate (a0.length : Int).toNat (false : Bool)).length : Int) then
          some (gt t1084 a2)
        else none)
  else none
theorem bailiffref15_Tops.callee : Callee Go.Proofs.Try.prog 42 := ⟨_, Go.Proofs.Try.func42, by kernel_rfl, by kernel_rfl⟩
set_option maxRecDepth 100000 in
set_option maxHeartbeats 2000000 in
theorem bailiffref15_Tops.spec (R : Res) (Fr : List HProp) (A0 : Option Addr) (n0 : Nat) (c0 : Nat) (A1 : Option Addr) (n1 : Nat) (c1 : Nat) (a0 : List (List Int)) (a1 : List Int) (a2 : Int) (hr0 : RdS ((Fl.int .i64).rep).slice R.heap A0 a0) (hn0 : a0.length = n0) (hc0 : n0 ≤ c0) (hr1 : RdS (Fl.int .i64).rep R.heap A1 a1) (hn1 : a1.length = n1) (hc1 : n1 ≤ c1) {r : Bool} (hrun : bailiffref15_Tops.f a0 a1 a2 = some r) :
    Spec Go.Proofs.Try.prog 42 [.slice A0 n0 c0, .slice A1 n1 c1, .int .i64 a2] R (Fr) (fun v l' => v = .bool r ∧ Fr = l') := by
  subst hn0
  subst hn1
  refine Spec.of Go.Proofs.Try.func42 rfl rfl ?_
  unfold bailiffref15_Tops.f at hrun
  have hrun := brun hrun
  refine At.seq ?_
  refine At.region ?_
  refine At.run 1 rfl ?_
  refine At.nil ?_
  refine At.thn ?_
  refine At.seq ?_
  refine At.region ?_
  refine At.run 2 rfl ?_
  obtain ⟨h258, hrun⟩ := bnone hrun
  refine At.make (F := Fl.bool) (z := false) rfl rfl rfl rfl rfl rfl rfl rfl rfl rfl h258.1 h258.2 (by decide) rfl (fun A259 c260 => ?_)
  refine At.run 1 rfl ?_
  refine At.nil ?_
  refine At.thn ?_
  refine At.seq ?_
  refine At.seq ?_
  refine At.region ?_
  refine At.run 1 rfl ?_
  refine At.nil ?_
  refine At.thn ?_
  refine At.block ?_
  obtain ⟨G1067, hl1068, hr1069, hrun⟩ := bjoin hrun
  obtain ⟨o1070, hlo1071, ho1072⟩ := bsome hrun
  clear hrun
  unfold bailiffref15_Tops.l0 at hlo1071
  obtain ⟨m1073, hit1075⟩ := iter_some.1 hlo1071
  clear hlo1071
  refine At.loopJ (X := (List Bool) × Int) (Y := (List Bool)) (e0 := 0) (fun s_ => [(0, .slice A0 a0.length c0), (1, .slice A1 a1.length c1), (2, .int .i64 a2), (7, .slice A259 ((List.replicate (a0.length : Int).toNat (false : Bool)).length) c260), (8, .int .i64 s_.2)]) (fun s_ => row Fl.bool 4 A259 ((List.replicate (a0.length : Int).toNat (false : Bool)).length) c260 s_.1 :: Fr) (fun m_ => fun s_ => iterN (fun t_ : (List Bool) × Int => bailiffref15_Tops.l0b a0 a1 a2 t_.1 t_.2) m_ (s_.1, s_.2) = some o1070) m1073 ((List.replicate (a0.length : Int).toNat (false : Bool)), 0) hit1075 (fun x1066 => [(0, .slice A0 a0.length c0), (2, .int .i64 a2), (7, .slice A259 ((List.replicate (a0.length : Int).toNat (false : Bool)).length) c260)]) (fun x1066 => row Fl.bool 4 A259 ((List.replicate (a0.length : Int).toNat (false : Bool)).length) c260 x1066 :: Fr) (fun x1066 => G1067 (.inl x1066) = some r) (fun a w e hs => ⟨e.sub ⟨rfl, rfl, rfl, rfl, rfl, trivial⟩, hs⟩) ?_ (fun J1077 => ?_)
  · rintro x1066 hrun
    have hrun := (hl1068 _).symm.trans hrun
    · refine At.ibx ?_
      refine At.thn ?_
      refine At.seq ?_
      refine At.region ?_
      refine At.run 3 rfl ?_
      refine At.freeze .z fun R1078 hr1079 hn1080 hc1081 hs1082 th1083 => ?_
      obtain ⟨t1084, hc1085, hrun⟩ := bbind hrun
      refine At.call rfl bailiffref15_Reach.callee rfl rfl rfl (bailiffref15_Reach.spec _ _ A0 a0.length c0 A259 ((List.replicate (a0.length : Int).toNat (false : Bool)).length) c260 a0 a2 x1066 (RdS.mono hs1082 hr0) rfl hc0 hr1079 hn1080 hc1081 hc1085) ?_
      rintro _ _ ⟨w1086, w1087, rfl, rfl⟩
      refine At.run 1 rfl ?_
      refine At.nil ?_
      refine At.thn ?_
      refine At.seq ?_
      refine At.region ?_
      refine At.run 2 rfl ?_
      obtain ⟨h1089, hrun⟩ := bnone hrun
      refine At.y (Y.ix .z rfl rfl rfl rfl rfl rfl h1089.1 h1089.2) rfl rfl rfl ?_
      refine At.y (Y.ld .z (q := 0) rfl rfl h1089.1 h1089.2 rfl rfl rfl) rfl rfl rfl ?_
      refine At.run 1 rfl ?_
      refine At.nil ?_
      refine At.thn ?_
      refine At.ret ?_
      refine At.thaw th1083 ?_
      refine At.drop .z ?_
      refine At.drop .z ?_
      obtain rfl := (bret hrun).symm
      exact At.res (.inl rfl) rfl rfl ⟨rfl, rfl⟩
  · clear hit1075 m1073
    rintro m1073 ⟨x864, x865⟩ hit1075
    obtain ⟨m1074, f_, hlt1076, hf_, hrun⟩ := bit hit1075
    clear hit1075
    have hrun : (bailiffref15_Tops.l0b a0 a1 a2 x864 x865).bind _ = some o1070 := hrun
    unfold bailiffref15_Tops.l0b at hrun
    · refine At.seq ?_
      refine At.seq ?_
      refine At.region ?_
      refine At.run 4 rfl ?_
      refine At.nil ?_
      refine At.thn ?_
      rcases bite hrun with ⟨h1090, hrun⟩ | ⟨h1090, hrun⟩
      · · refine At.condT rfl (decide_eq_true h1090) ?_
          refine At.skip ?_
          refine At.thn ?_
          refine At.seq ?_
          refine At.block ?_
          refine At.region ?_
          refine At.run 4 rfl ?_
          obtain ⟨t1091, hc1092, hrun⟩ := bbind hrun
          refine At.call rfl bailiffref15_of.callee rfl rfl rfl (bailiffref15_of.spec _ _ A1 a1.length c1 a1 x865 hr1 rfl hc1 hc1092) ?_
          rintro _ _ ⟨rfl, rfl⟩
          refine At.run 2 rfl ?_
          obtain ⟨t1093, hc1094, hrun⟩ := bbind hrun
          refine At.call rfl bailiffref15_of.callee rfl rfl rfl (bailiffref15_of.spec _ _ A1 a1.length c1 a1 a2 hr1 rfl hc1 hc1094) ?_
          rintro _ _ ⟨rfl, rfl⟩
          refine At.run 1 rfl ?_
          obtain ⟨h1095, hrun⟩ := bnone hrun
          refine At.y (Y.ix .z rfl rfl rfl rfl rfl rfl h1095.1 h1095.2) rfl rfl rfl ?_
          refine At.st rfl .z (q := 0) (z := (decide (t1091 ≤ t1093))) rfl rfl rfl h1095.1 h1095.2 rfl rfl (.c .n) ?_
          refine At.nil ?_
          refine At.ibn ?_
          refine At.thn ?_
          refine At.region ?_
          refine At.run 3 rfl ?_
          refine At.nil ?_
          have hrun := bnx hf_ hrun
          exact fun a w e hs => ⟨m1074, ((st x864 x865 (decide (t1091 ≤ t1093))), IntKind.i64.wrap (x865 + 1)), hlt1076, hrun, e.sub ⟨rfl, rfl, rfl, rfl, rfl, trivial⟩, hs⟩
      · · refine At.condF rfl (decide_eq_false h1090) ?_
          refine At.exit ?_
          refine At.the ?_
          refine At.the ?_
          exact fun a w e hs => J1077 x864 (bdn hrun ho1072) a w (e.sub ⟨rfl, rfl, rfl, trivial⟩) hs

noncomputable def bailiffref15_Bad.l0b (a0 : List (List Int)) (a1 : List Int) (a2 : Int) (x853 : Int) : Option ((Int) ⊕ ((Unit) ⊕ (Int))) :=
  if x853 < (a0.length : Int) then
    jn (
      (bailiffref15_of.f a1 x853).bind fun t1270 =>
        if band .i64 t1270 1 = band .i64 a2 1 then
          (bailiffref15_Tops.f a0 a1 x853).bind fun t1273 =>
            if t1273 = true then
              up (upL (some x853))
            else
              some (.inl ())
        else
          some (.inl ())) (fun (_ : Unit) =>
      nx (IntKind.i64.wrap (x853 + 1)))
  else
    dn (.inl ())
noncomputable def bailiffref15_Bad.l0 (a0 : List (List Int)) (a1 : List Int) (a2 : Int) (x853 : Int) : Option ((Unit) ⊕ (Int)) := iter (fun t_ : Int => bailiffref15_Bad.l0b a0 a1 a2 t_) x853
noncomputable def bailiffref15_Bad.f (a0 : List (List Int)) (a1 : List Int) (a2 : Int) : Option Int :=
  jn (bailiffref15_Bad.l0 a0 a1 a2 0) (fun (_ : Unit) =>
    some (-1))
theorem bailiffref15_Bad.callee : Callee Go.Proofs.Try.prog 23 := ⟨_, Go.Proofs.Try.func23, by kernel_rfl, by kernel_rfl⟩
set_option maxRecDepth 100000 in
set_option maxHeartbeats 2000000 in
theorem bailiffref15_Bad.spec (R : Res) (Fr : List HProp) (A0 : Option Addr) (n0 : Nat) (c0 : Nat) (A1 : Option Addr) (n1 : Nat) (c1 : Nat) (a0 : List (List Int)) (a1 : List Int) (a2 : Int) (hr0 : RdS ((Fl.int .i64).rep).slice R.heap A0 a0) (hn0 : a0.length = n0) (hc0 : n0 ≤ c0) (hr1 : RdS (Fl.int .i64).rep R.heap A1 a1) (hn1 : a1.length = n1) (hc1 : n1 ≤ c1) {r : Int} (hrun : bailiffref15_Bad.f a0 a1 a2 = some r) :
    Spec Go.Proofs.Try.prog 23 [.slice A0 n0 c0, .slice A1 n1 c1, .int .i64 a2] R (Fr) (fun v l' => v = .int .i64 r ∧ Fr = l') := by
  subst hn0
  subst hn1
  refine Spec.of Go.Proofs.Try.func23 rfl rfl ?_
  unfold bailiffref15_Bad.f at hrun
  have hrun := brun hrun
  refine At.seq ?_
  refine At.region ?_
  refine At.run 1 rfl ?_
  refine At.nil ?_
  refine At.thn ?_
  refine At.seq ?_
  refine At.seq ?_
  refine At.region ?_
  refine At.run 1 rfl ?_
  refine At.nil ?_
  refine At.thn ?_
  refine At.block ?_
  obtain ⟨G1054, hl1055, hr1056, hrun⟩ := bjoin hrun
  obtain ⟨o1057, hlo1058, ho1059⟩ := bsome hrun
  clear hrun
  unfold bailiffref15_Bad.l0 at hlo1058
  obtain ⟨m1060, hit1062⟩ := iter_some.1 hlo1058
  clear hlo1058
  refine At.loopJ (X := Int) (Y := Unit) (e0 := 0) (fun x853 => [(0, .slice A0 a0.length c0), (1, .slice A1 a1.length c1), (2, .int .i64 a2), (7, .int .i64 x853)]) (fun x853 => Fr) (fun m_ => fun x853 => iterN (fun t_ : Int => bailiffref15_Bad.l0b a0 a1 a2 t_) m_ x853 = some o1057) m1060 0 hit1062 (fun _ => []) (fun _ => Fr) (fun _ => G1054 (.inl ()) = some r) (fun a w e hs => ⟨e.sub ⟨rfl, rfl, rfl, rfl, trivial⟩, hs⟩) ?_ (fun J1064 => ?_)
  · rintro _ hrun
    have hrun := (hl1055 _).symm.trans hrun
    · refine At.ibx ?_
      refine At.thn ?_
      refine At.seq ?_
      refine At.region ?_
      refine At.run 1 rfl ?_
      refine At.nil ?_
      refine At.thn ?_
      refine At.ret ?_
      obtain rfl := (bret hrun).symm
      exact At.res (.inl rfl) rfl rfl ⟨rfl, rfl⟩
  · clear hit1062 m1060
    rintro m1060 x853 hit1062
    obtain ⟨m1061, f_, hlt1063, hf_, hrun⟩ := bit hit1062
    clear hit1062
    have hrun : (bailiffref15_Bad.l0b a0 a1 a2 x853).bind _ = some o1057 := hrun
    unfold bailiffref15_Bad.l0b at hrun
    · refine At.seq ?_
      refine At.seq ?_
      refine At.region ?_
      refine At.run 4 rfl ?_
      refine At.nil ?_
      refine At.thn ?_
      rcases bite hrun with ⟨h1065, hrun⟩ | ⟨h1065, hrun⟩
      · · refine At.condT rfl (decide_eq_true h1065) ?_
          refine At.skip ?_
          refine At.thn ?_
          refine At.seq ?_
          obtain ⟨G1066, hl1067, hr1068, hrun⟩ := bjoin hrun
          refine At.join (X := Unit) (fun _ => [(0, .slice A0 a0.length c0), (1, .slice A1 a1.length c1), (2, .int .i64 a2), (7, .int .i64 x853)]) (fun _ => Fr) (fun _ => G1066 (.inl ()) = some o1057) ?_ (fun J1069 => ?_)
          · rintro _ hrun
            have hrun := (hl1067 _).symm.trans hrun
            · refine At.region ?_
              refine At.run 3 rfl ?_
              refine At.nil ?_
              have hrun := bnx hf_ hrun
              exact fun a w e hs => ⟨m1061, (IntKind.i64.wrap (x853 + 1)), hlt1063, hrun, e.sub ⟨rfl, rfl, rfl, rfl, trivial⟩, hs⟩
          · · refine At.block ?_
              refine At.seq ?_
              refine At.region ?_
              refine At.run 2 rfl ?_
              obtain ⟨t1270, hc1271, hrun⟩ := bbind hrun
              refine At.call rfl bailiffref15_of.callee rfl rfl rfl (bailiffref15_of.spec _ _ A1 a1.length c1 a1 x853 hr1 rfl hc1 hc1271) ?_
              rintro _ _ ⟨rfl, rfl⟩
              refine At.run 4 rfl ?_
              refine At.nil ?_
              refine At.thn ?_
              rcases bite hrun with ⟨h1272, hrun⟩ | ⟨h1272, hrun⟩
              · · refine At.condT rfl (decide_eq_true h1272) ?_
                  refine At.seq ?_
                  refine At.region ?_
                  refine At.run 3 rfl ?_
                  obtain ⟨t1273, hc1274, hrun⟩ := bbind hrun
                  refine At.call rfl bailiffref15_Tops.callee rfl rfl rfl (bailiffref15_Tops.spec _ _ A0 a0.length c0 A1 a1.length c1 a0 a1 x853 hr0 rfl hc0 hr1 rfl hc1 hc1274) ?_
                  rintro _ _ ⟨rfl, rfl⟩
                  refine At.run 1 rfl ?_
                  refine At.nil ?_
                  refine At.thn ?_
                  refine At.seq ?_
                  refine At.region ?_
                  refine At.run 1 rfl ?_
                  refine At.nil ?_
                  refine At.thn ?_
                  rcases bite hrun with ⟨h1275, hrun⟩ | ⟨h1275, hrun⟩
                  · · refine At.condT rfl h1275 ?_
                      refine At.seq ?_
                      refine At.region ?_
                      refine At.run 2 rfl ?_
                      refine At.nil ?_
                      refine At.thn ?_
                      refine At.ret ?_
                      refine At.ibr ?_
                      have hrun := bup hr1068 hrun
                      refine At.thr ?_
                      have hrun := bupL hr1056 ho1059 hrun
                      refine At.thr ?_
                      refine At.ibr ?_
                      refine At.thr ?_
                      obtain rfl := (bret hrun).symm
                      exact At.res (.inl rfl) rfl rfl ⟨rfl, rfl⟩
                  · · refine At.condF rfl (bn h1275) ?_
                      refine At.skip ?_
                      refine At.ibn ?_
                      refine At.thn ?_
                      exact fun a w e hs => J1069 () hrun a w (e.sub ⟨rfl, rfl, rfl, rfl, trivial⟩) hs
              · · refine At.condF rfl (decide_eq_false h1272) ?_
                  refine At.skip ?_
                  refine At.ibn ?_
                  refine At.thn ?_
                  exact fun a w e hs => J1069 () hrun a w (e.sub ⟨rfl, rfl, rfl, rfl, trivial⟩) hs
      · · refine At.condF rfl (decide_eq_false h1065) ?_
          refine At.exit ?_
          refine At.the ?_
          refine At.the ?_
          exact fun a w e hs => J1064 () (bdn hrun ho1059) a w (e.sub trivial) hs

noncomputable def bailiffref15_Components.l3b (a0 : List (List Int)) (x1899 : List (List Bool)) (x2531 : Int) (x3569 : List Int) (x3574 : List Bool) (x3575 : Int) : Option (((List Int) × (List Bool) × Int) ⊕ (((List Int) × (List Bool)) ⊕ (((List (List Int)) × (List Bool)) ⊕ (((List (List Int)) × (List Bool) × Int) ⊕ (((List (List Int)) × (List Bool)) ⊕ ((List (List Int)))))))) :=
  if x3575 < (a0.length : Int) then
    jn (
      jn (
        if x3575 = x2531 then
          some (.inl true)
        else
          if (0 : Int) ≤ x2531 ∧ x2531 < (x1899.length : Int) then
            if (0 : Int) ≤ x3575 ∧ x3575 < ((gt x1899 x2531).length : Int) then
              jn (
                if gt (gt x1899 x2531) x3575 = true then
                  if (0 : Int) ≤ x3575 ∧ x3575 < (x1899.length : Int) then
                    if (0 : Int) ≤ x2531 ∧ x2531 < ((gt x1899 x3575).length : Int) then
                      some (.inl (true, gt (gt x1899 x3575) x2531))
                    else none
                  else none
                else
                  some (.inl (false, false))) (fun (s_ : Bool × Bool) =>
                some (.inl s_.2))
            else none
          else none) (fun (x4210 : Bool) =>
        if x4210 = true then
          if (x3569.length + ([x3575] : List Int).length) * 8 ≤ 140737488355328 then
            if (0 : Int) ≤ x3575 ∧ x3575 < ((List.replicate (a0.length : Int).toNat (false : Bool)).length : Int) then
              some (.inl ((st x3574 x3575 true), (x3569 ++ ([x3575] : List Int))))
            else none
          else none
        else
          some (.inl (x3574, x3569)))) (fun (s_ : (List Bool) × (List Int)) =>
      nx (s_.2, s_.1, IntKind.i64.wrap (x3575 + 1)))
  else
    dn (.inl (x3569, x3574))
noncomputable def bailiffref15_Components.l3 (a0 : List (List Int)) (x1899 : List (List Bool)) (x2531 : Int) (x3569 : List Int) (x3574 : List Bool) (x3575 : Int) : Option (((List Int) × (List Bool)) ⊕ (((List (List Int)) × (List Bool)) ⊕ (((List (List Int)) × (List Bool) × Int) ⊕ (((List (List Int)) × (List Bool)) ⊕ ((List (List Int))))))) := iter (fun t_ : (List Int) × (List Bool) × Int => bailiffref15_Components.l3b a0 x1899 x2531 t_.1 t_.2.1 t_.2.2) (x3569, x3574, x3575)
noncomputable def bailiffref15_Components.l2b (a0 : List (List Int)) (x1899 : List (List Bool)) (x2525 : List (List Int)) (x2530 : List Bool) (x2531 : Int) : Option (((List (List Int)) × (List Bool) × Int) ⊕ (((List (List Int)) × (List Bool)) ⊕ ((List (List Int))))) :=
  if x2531 < (a0.length : Int) then
    jn (
      if (0 : Int) ≤ x2531 ∧ x2531 < ((List.replicate (a0.length : Int).toNat (false : Bool)).length : Int) then
        if gt x2530 x2531 = true then
          some (.inl (x2525, x2530))
        else
          jn (bailiffref15_Components.l3 a0 x1899 x2531 ([] : List Int) x2530 x2531) (fun (s_ : (List Int) × (List Bool)) =>
            if (x2525.length + 1) * 24 ≤ 140737488355328 then
              some (.inl ((x2525 ++ [s_.1]), s_.2))
            else none)
      else none) (fun (s_ : (List (List Int)) × (List Bool)) =>
      nx (s_.1, s_.2, IntKind.i64.wrap (x2531 + 1)))
  else
    dn (.inl (x2525, x2530))
noncomputable def bailiffref15_Components.l2 (a0 : List (List Int)) (x1899 : List (List Bool)) (x2525 : List (List Int)) (x2530 : List Bool) (x2531 : Int) : Option (((List (List Int)) × (List Bool)) ⊕ ((List (List Int)))) := iter (fun t_ : (List (List Int)) × (List Bool) × Int => bailiffref15_Components.l2b a0 x1899 t_.1 t_.2.1 t_.2.2) (x2525, x2530, x2531)
noncomputable def bailiffref15_Components.l1b (a0 : List (List Int)) (x1075 : List Bool) (x1693 : List (List Bool)) (x1698 : Int) : Option (((List (List Bool)) × Int) ⊕ (((List (List Bool))) ⊕ ((List (List Int))))) :=
  if x1698 < (a0.length : Int) then
    (bailiffref15_Reach.f a0 x1698 x1075).bind fun t4458 =>
      if (x1693.length + 1) * 24 ≤ 140737488355328 then
        nx ((x1693 ++ [t4458]), IntKind.i64.wrap (x1698 + 1))
      else none
  else
    dn (.inl x1693)
noncomputable def bailiffref15_Components.l1 (a0 : List (List Int)) (x1075 : List Bool) (x1693 : List (List Bool)) (x1698 : Int) : Option (((List (List Bool))) ⊕ ((List (List Int)))) := iter (fun t_ : (List (List Bool)) × Int => bailiffref15_Components.l1b a0 x1075 t_.1 t_.2) (x1693, x1698)
noncomputable def bailiffref15_Components.l0b (a0 : List (List Int)) (x873 : List Bool) (x874 : Int) : Option (((List Bool) × Int) ⊕ (((List Bool)) ⊕ ((List (List Int))))) :=
  if x874 < (a0.length : Int) then
    if (0 : Int) ≤ x874 ∧ x874 < ((List.replicate (a0.length : Int).toNat (false : Bool)).length : Int) then
      nx ((st x873 x874 true), IntKind.i64.wrap (x874 + 1))
    else none
  else
    dn (.inl x873)
noncomputable def bailiffref15_Components.l0 (a0 : List (List Int)) (x873 : List Bool) (x874 : Int) : Option (((List Bool)) ⊕ ((List (List Int)))) := iter (fun t_ : (List Bool) × Int => bailiffref15_Components.l0b a0 t_.1 t_.2) (x873, x874)
noncomputable def bailiffref15_Components.f (a0 : List (List Int)) : Option (List (List Int)) :=
  if (0 : Int) ≤ (a0.length : Int) ∧ (1 : Int) * (a0.length : Int) ≤ 281474976710656 then
    jn (bailiffref15_Components.l0 a0 (List.replicate (a0.length : Int).toNat (false : Bool)) 0) (fun (x1075 : List Bool) =>
      jn (bailiffref15_Components.l1 a0 x1075 ([] : List (List Bool)) 0) (fun (x1899 : List (List Bool)) =>
        jn (bailiffref15_Components.l2 a0 x1899 ([] : List (List Int)) (List.replicate (a0.length : Int).toNat (false : Bool)) 0) (fun (s_ : (List (List Int)) × (List Bool)) =>
          some s_.1)))
  else none
theorem bailiffref15_Components.callee : Callee Go.Proofs.Try.prog 18 := ⟨_, Go.Proofs.Try.func18, by kernel_rfl, by kernel_rfl⟩
set_option maxRecDepth 100000 in
set_option maxHeartbeats 2000000 in
theorem bailiffref15_Components.spec (R : Res) (Fr : List HProp) (A0 : Option Addr) (n0 : Nat) (c0 : Nat) (a0 : List (List Int)) (hr0 : RdS ((Fl.int .i64).rep).slice R.heap A0 a0) (hn0 : a0.length = n0) (hc0 : n0 ≤ c0) {r : (List (List Int))} (hrun : bailiffref15_Components.f a0 = some r) :
    Spec Go.Proofs.Try.prog 18 [.slice A0 n0 c0] R (Fr) (fun v l' => ∃ (w252 : Nat) (w254 : Option Addr) (w255 : Nat), v = .slice w254 w252 w255 ∧ rows (Fl.int .i64) 3 26 w254 w252 w255 r :: Fr = l' ∧ r.length = w252) := by
  subst hn0
  refine Spec.of Go.Proofs.Try.func18 rfl rfl ?_
  unfold bailiffref15_Components.f at hrun
  have hrun := brun hrun
  refine At.seq ?_
  refine At.region ?_
  refine At.run 1 rfl ?_
  refine At.nil ?_
  refine At.thn ?_
  refine At.seq ?_
  refine At.region ?_
  refine At.run 3 rfl ?_
  refine At.nil ?_
  refine At.thn ?_
  refine At.seq ?_
  refine At.region ?_
  refine At.run 1 rfl ?_
  obtain ⟨h267, hrun⟩ := bnone hrun
  refine At.make (F := Fl.bool) (z := false) rfl rfl rfl rfl rfl rfl rfl rfl rfl rfl h267.1 h267.2 (by decide) rfl (fun A268 c269 => ?_)
  refine At.run 1 rfl ?_
  refine At.nil ?_
  refine At.thn ?_
  refine At.seq ?_
  refine At.seq ?_
  refine At.region ?_
  refine At.run 1 rfl ?_
  refine At.nil ?_
  refine At.thn ?_
  refine At.block ?_
  obtain ⟨G1076, hl1077, hr1078, hrun⟩ := bjoin hrun
  obtain ⟨o1079, hlo1080, ho1081⟩ := bsome hrun
  clear hrun
  unfold bailiffref15_Components.l0 at hlo1080
  obtain ⟨m1082, hit1084⟩ := iter_some.1 hlo1080
  clear hlo1080
  refine At.loopJ (X := (List Bool) × Int) (Y := (List Bool)) (e0 := 0) (fun s_ => [(0, .slice A0 a0.length c0), (3, .int .i64 (a0.length : Int)), (4, .slice A268 ((List.replicate (a0.length : Int).toNat (false : Bool)).length) c269), (5, .int .i64 s_.2)]) (fun s_ => row Fl.bool 4 A268 ((List.replicate (a0.length : Int).toNat (false : Bool)).length) c269 s_.1 :: Fr) (fun m_ => fun s_ => iterN (fun t_ : (List Bool) × Int => bailiffref15_Components.l0b a0 t_.1 t_.2) m_ (s_.1, s_.2) = some o1079) m1082 ((List.replicate (a0.length : Int).toNat (false : Bool)), 0) hit1084 (fun x1075 => [(0, .slice A0 a0.length c0), (3, .int .i64 (a0.length : Int)), (4, .slice A268 ((List.replicate (a0.length : Int).toNat (false : Bool)).length) c269)]) (fun x1075 => row Fl.bool 4 A268 ((List.replicate (a0.length : Int).toNat (false : Bool)).length) c269 x1075 :: Fr) (fun x1075 => G1076 (.inl x1075) = some r) (fun a w e hs => ⟨e.sub ⟨rfl, rfl, rfl, rfl, trivial⟩, hs⟩) ?_ (fun J1086 => ?_)
  · rintro x1075 hrun
    have hrun := (hl1077 _).symm.trans hrun
    · refine At.ibx ?_
      refine At.thn ?_
      refine At.seq ?_
      refine At.region ?_
      refine At.run 1 rfl ?_
      refine At.nil ?_
      refine At.thn ?_
      refine At.seq ?_
      refine At.seq ?_
      refine At.region ?_
      refine At.run 1 rfl ?_
      refine At.nil ?_
      refine At.thn ?_
      refine At.block ?_
      obtain ⟨G1904, hl1905, hr1906, hrun⟩ := bjoin hrun
      obtain ⟨o1907, hlo1908, ho1909⟩ := bsome hrun
      clear hrun
      unfold bailiffref15_Components.l1 at hlo1908
      obtain ⟨m1910, hit1912⟩ := iter_some.1 hlo1908
      clear hlo1908
      refine At.nilRows Fl.bool 4 31 ?_
      refine At.loopJ (X := (List (List Bool)) × Int × Nat × (Option Addr) × Nat) (Y := (List (List Bool)) × Nat × (Option Addr) × Nat) (e0 := 2) (fun s_ => [(0, .slice A0 a0.length c0), (3, .int .i64 (a0.length : Int)), (4, .slice A268 ((List.replicate (a0.length : Int).toNat (false : Bool)).length) c269), (6, .slice s_.2.2.2.1 s_.2.2.1 s_.2.2.2.2), (7, .int .i64 s_.2.1)]) (fun s_ => rows Fl.bool 4 31 s_.2.2.2.1 s_.2.2.1 s_.2.2.2.2 s_.1 :: row Fl.bool 4 A268 ((List.replicate (a0.length : Int).toNat (false : Bool)).length) c269 x1075 :: Fr) (fun m_ => fun s_ => iterN (fun t_ : (List (List Bool)) × Int => bailiffref15_Components.l1b a0 x1075 t_.1 t_.2) m_ (s_.1, s_.2.1) = some o1907 ∧ s_.1.length = s_.2.2.1) m1910 (([] : List (List Bool)), 0, 0, none, 0) ⟨hit1912, rfl⟩ (fun s_ => [(3, .int .i64 (a0.length : Int)), (6, .slice s_.2.2.1 s_.2.1 s_.2.2.2)]) (fun s_ => rows Fl.bool 4 31 s_.2.2.1 s_.2.1 s_.2.2.2 s_.1 :: row Fl.bool 4 A268 ((List.replicate (a0.length : Int).toNat (false : Bool)).length) c269 x1075 :: Fr) (fun s_ => G1904 (.inl s_.1) = some r ∧ s_.1.length = s_.2.1) (fun a w e hs => ⟨e.sub ⟨rfl, rfl, rfl, rfl, rfl, trivial⟩, hs⟩) ?_ (fun J1914 => ?_)
      · rintro ⟨x1899, w1900, w1902, w1903⟩ ⟨hrun, hn1901⟩
        obtain rfl : x1899.length = w1900 := hn1901
        have hrun := (hl1905 _).symm.trans hrun
        · refine At.ibx ?_
          refine At.thn ?_
          refine At.seq ?_
          refine At.region ?_
          refine At.run 1 rfl ?_
          refine At.make (F := Fl.bool) (z := false) rfl rfl rfl rfl rfl rfl rfl rfl rfl rfl h267.1 h267.2 (by decide) rfl (fun A1915 c1916 => ?_)
          refine At.run 1 rfl ?_
          refine At.nil ?_
          refine At.thn ?_
          refine At.seq ?_
          refine At.region ?_
          refine At.run 1 rfl ?_
          refine At.nil ?_
          refine At.thn ?_
          refine At.seq ?_
          refine At.seq ?_
          refine At.region ?_
          refine At.run 1 rfl ?_
          refine At.nil ?_
          refine At.thn ?_
          refine At.block ?_
          obtain ⟨G2738, hl2739, hr2740, hrun⟩ := bjoin hrun
          obtain ⟨o2741, hlo2742, ho2743⟩ := bsome hrun
          clear hrun
          unfold bailiffref15_Components.l2 at hlo2742
          obtain ⟨m2744, hit2746⟩ := iter_some.1 hlo2742
          clear hlo2742
          refine At.nilRows (Fl.int .i64) 3 26 ?_
          refine At.loopJ (X := (List (List Int)) × (List Bool) × Int × Nat × (Option Addr) × Nat) (Y := (List (List Int)) × (List Bool) × Nat × (Option Addr) × Nat) (e0 := 4) (fun s_ => [(3, .int .i64 (a0.length : Int)), (6, .slice w1902 x1899.length w1903), (8, .slice A1915 ((List.replicate (a0.length : Int).toNat (false : Bool)).length) c1916), (9, .slice s_.2.2.2.2.1 s_.2.2.2.1 s_.2.2.2.2.2), (10, .int .i64 s_.2.2.1)]) (fun s_ => rows (Fl.int .i64) 3 26 s_.2.2.2.2.1 s_.2.2.2.1 s_.2.2.2.2.2 s_.1 :: row Fl.bool 4 A1915 ((List.replicate (a0.length : Int).toNat (false : Bool)).length) c1916 s_.2.1 :: rows Fl.bool 4 31 w1902 x1899.length w1903 x1899 :: row Fl.bool 4 A268 ((List.replicate (a0.length : Int).toNat (false : Bool)).length) c269 x1075 :: Fr) (fun m_ => fun s_ => iterN (fun t_ : (List (List Int)) × (List Bool) × Int => bailiffref15_Components.l2b a0 x1899 t_.1 t_.2.1 t_.2.2) m_ (s_.1, s_.2.1, s_.2.2.1) = some o2741 ∧ s_.1.length = s_.2.2.2.1) m2744 (([] : List (List Int)), (List.replicate (a0.length : Int).toNat (false : Bool)), 0, 0, none, 0) ⟨hit2746, rfl⟩ (fun s_ => [(9, .slice s_.2.2.2.1 s_.2.2.1 s_.2.2.2.2)]) (fun s_ => rows (Fl.int .i64) 3 26 s_.2.2.2.1 s_.2.2.1 s_.2.2.2.2 s_.1 :: row Fl.bool 4 A1915 ((List.replicate (a0.length : Int).toNat (false : Bool)).length) c1916 s_.2.1 :: rows Fl.bool 4 31 w1902 x1899.length w1903 x1899 :: row Fl.bool 4 A268 ((List.replicate (a0.length : Int).toNat (false : Bool)).length) c269 x1075 :: Fr) (fun s_ => G2738 (.inl (s_.1, s_.2.1)) = some r ∧ s_.1.length = s_.2.2.1) (fun a w e hs => ⟨e.sub ⟨rfl, rfl, rfl, rfl, rfl, trivial⟩, hs⟩) ?_ (fun J2748 => ?_)
          · rintro ⟨x2732, x2737, w2733, w2735, w2736⟩ ⟨hrun, hn2734⟩
            obtain rfl : x2732.length = w2733 := hn2734
            have hrun := (hl2739 _).symm.trans hrun
            · refine At.ibx ?_
              refine At.thn ?_
              refine At.seq ?_
              refine At.region ?_
              refine At.run 2 rfl ?_
              refine At.nil ?_
              refine At.thn ?_
              refine At.ret ?_
              refine At.drop (.s .z) ?_
              refine At.drop (.s .z) ?_
              refine At.drop (.s .z) ?_
              obtain rfl := (bret hrun).symm
              exact At.res (.inl rfl) rfl rfl ⟨x2732.length, w2735, w2736, rfl, rfl, rfl⟩
          · clear hit2746 m2744
            rintro m2744 ⟨x2525, x2530, x2531, w2526, w2528, w2529⟩ ⟨hit2746, hn2527⟩
            obtain rfl : x2525.length = w2526 := hn2527
            obtain ⟨m2745, f_, hlt2747, hf_, hrun⟩ := bit hit2746
            clear hit2746
            have hrun : (bailiffref15_Components.l2b a0 x1899 x2525 x2530 x2531).bind _ = some o2741 := hrun
            unfold bailiffref15_Components.l2b at hrun
            · refine At.seq ?_
              refine At.seq ?_
              refine At.region ?_
              refine At.run 3 rfl ?_
              refine At.nil ?_
              refine At.thn ?_
              rcases bite hrun with ⟨h2749, hrun⟩ | ⟨h2749, hrun⟩
              · · refine At.condT rfl (decide_eq_true h2749) ?_
                  refine At.skip ?_
                  refine At.thn ?_
                  refine At.seq ?_
                  obtain ⟨G2750, hl2751, hr2752, hrun⟩ := bjoin hrun
                  refine At.join (X := (List (List Int)) × (List Bool) × Nat × (Option Addr) × Nat) (fun s_ => [(3, .int .i64 (a0.length : Int)), (6, .slice w1902 x1899.length w1903), (8, .slice A1915 ((List.replicate (a0.length : Int).toNat (false : Bool)).length) c1916), (9, .slice s_.2.2.2.1 s_.2.2.1 s_.2.2.2.2), (10, .int .i64 x2531)]) (fun s_ => rows (Fl.int .i64) 3 26 s_.2.2.2.1 s_.2.2.1 s_.2.2.2.2 s_.1 :: row Fl.bool 4 A1915 ((List.replicate (a0.length : Int).toNat (false : Bool)).length) c1916 s_.2.1 :: rows Fl.bool 4 31 w1902 x1899.length w1903 x1899 :: row Fl.bool 4 A268 ((List.replicate (a0.length : Int).toNat (false : Bool)).length) c269 x1075 :: Fr) (fun s_ => G2750 (.inl (s_.1, s_.2.1)) = some o2741 ∧ s_.1.length = s_.2.2.1) ?_ (fun J2753 => ?_)
                  · rintro ⟨x2954, x2959, w2955, w2957, w2958⟩ ⟨hrun, hn2956⟩
                    obtain rfl : x2954.length = w2955 := hn2956
                    have hrun := (hl2751 _).symm.trans hrun
                    · refine At.region ?_
                      refine At.run 3 rfl ?_
                      refine At.nil ?_
                      have hrun := bnx hf_ hrun
                      exact fun a w e hs => ⟨m2745, (x2954, x2959, IntKind.i64.wrap (x2531 + 1), x2954.length, w2957, w2958), hlt2747, ⟨hrun, rfl⟩, e.sub ⟨rfl, rfl, rfl, rfl, rfl, trivial⟩, hs⟩
                  · · refine At.block ?_
                      refine At.seq ?_
                      refine At.seq ?_
                      refine At.region ?_
                      refine At.run 2 rfl ?_
                      obtain ⟨h2960, hrun⟩ := bnone hrun
                      refine At.y (Y.ix (.s .z) rfl rfl rfl rfl rfl rfl h2960.1 h2960.2) rfl rfl rfl ?_
                      refine At.y (Y.ld (.s .z) (q := 0) rfl rfl h2960.1 h2960.2 rfl rfl rfl) rfl rfl rfl ?_
                      refine At.nil ?_
                      refine At.thn ?_
                      rcases bite hrun with ⟨h2961, hrun⟩ | ⟨h2961, hrun⟩
                      · · refine At.condT rfl h2961 ?_
                          refine At.exit ?_
                          refine At.the ?_
                          refine At.ibx ?_
                          refine At.thn ?_
                          exact fun a w e hs => J2753 (x2525, x2530, x2525.length, w2528, w2529) ⟨hrun, rfl⟩ a w (e.sub ⟨rfl, rfl, rfl, rfl, rfl, trivial⟩) hs
                      · · refine At.condF rfl (bn h2961) ?_
                          refine At.skip ?_
                          refine At.thn ?_
                          refine At.seq ?_
                          refine At.region ?_
                          refine At.run 1 rfl ?_
                          refine At.nil ?_
                          refine At.thn ?_
                          refine At.seq ?_
                          refine At.seq ?_
                          refine At.region ?_
                          refine At.run 2 rfl ?_
                          refine At.nil ?_
                          refine At.thn ?_
                          refine At.block ?_
                          obtain ⟨G3782, hl3783, hr3784, hrun⟩ := bjoin hrun
                          obtain ⟨o3785, hlo3786, ho3787⟩ := bsome hrun
                          clear hrun
                          unfold bailiffref15_Components.l3 at hlo3786
                          obtain ⟨m3788, hit3790⟩ := iter_some.1 hlo3786
                          clear hlo3786
                          refine At.nilRow (Fl.int .i64) 3 ?_
                          refine At.loopJ (X := (List Int) × (List Bool) × Int × Nat × (Option Addr) × Nat) (Y := (List Int) × (List Bool) × Nat × (Option Addr) × Nat) (e0 := 6) (fun s_ => [(3, .int .i64 (a0.length : Int)), (6, .slice w1902 x1899.length w1903), (8, .slice A1915 ((List.replicate (a0.length : Int).toNat (false : Bool)).length) c1916), (9, .slice w2528 x2525.length w2529), (10, .int .i64 x2531), (11, .slice s_.2.2.2.2.1 s_.2.2.2.1 s_.2.2.2.2.2), (12, .int .i64 s_.2.2.1)]) (fun s_ => row (Fl.int .i64) 3 s_.2.2.2.2.1 s_.2.2.2.1 s_.2.2.2.2.2 s_.1 :: rows (Fl.int .i64) 3 26 w2528 x2525.length w2529 x2525 :: row Fl.bool 4 A1915 ((List.replicate (a0.length : Int).toNat (false : Bool)).length) c1916 s_.2.1 :: rows Fl.bool 4 31 w1902 x1899.length w1903 x1899 :: row Fl.bool 4 A268 ((List.replicate (a0.length : Int).toNat (false : Bool)).length) c269 x1075 :: Fr) (fun m_ => fun s_ => iterN (fun t_ : (List Int) × (List Bool) × Int => bailiffref15_Components.l3b a0 x1899 x2531 t_.1 t_.2.1 t_.2.2) m_ (s_.1, s_.2.1, s_.2.2.1) = some o3785 ∧ s_.1.length = s_.2.2.2.1) m3788 (([] : List Int), x2530, x2531, 0, none, 0) ⟨hit3790, rfl⟩ (fun s_ => [(3, .int .i64 (a0.length : Int)), (6, .slice w1902 x1899.length w1903), (8, .slice A1915 ((List.replicate (a0.length : Int).toNat (false : Bool)).length) c1916), (9, .slice w2528 x2525.length w2529), (10, .int .i64 x2531), (11, .slice s_.2.2.2.1 s_.2.2.1 s_.2.2.2.2)]) (fun s_ => row (Fl.int .i64) 3 s_.2.2.2.1 s_.2.2.1 s_.2.2.2.2 s_.1 :: rows (Fl.int .i64) 3 26 w2528 x2525.length w2529 x2525 :: row Fl.bool 4 A1915 ((List.replicate (a0.length : Int).toNat (false : Bool)).length) c1916 s_.2.1 :: rows Fl.bool 4 31 w1902 x1899.length w1903 x1899 :: row Fl.bool 4 A268 ((List.replicate (a0.length : Int).toNat (false : Bool)).length) c269 x1075 :: Fr) (fun s_ => G3782 (.inl (s_.1, s_.2.1)) = some o2741 ∧ s_.1.length = s_.2.2.1) (fun a w e hs => ⟨e.sub ⟨rfl, rfl, rfl, rfl, rfl, rfl, rfl, trivial⟩, hs⟩) ?_ (fun J3792 => ?_)
                          · rintro ⟨x3776, x3781, w3777, w3779, w3780⟩ ⟨hrun, hn3778⟩
                            obtain rfl : x3776.length = w3777 := hn3778
                            have hrun := (hl3783 _).symm.trans hrun
                            · refine At.ibx ?_
                              refine At.thn ?_
                              refine At.region ?_
                              refine At.run 2 rfl ?_
                              refine At.litV rfl (xo := [.tmp 83]) (vs := [.slice w3779 x3776.length w3780]) rfl rfl rfl rfl rfl rfl rfl rfl rfl rfl rfl (fun A3793 c3794 => ?_)
                              obtain ⟨h3796, hrun⟩ := bnone hrun
                              refine At.appendRow rfl (.s (.s .z)) .z .z rfl rfl rfl rfl rfl rfl rfl rfl h3796 (by decide) rfl (fun A3797 c3798 => ?_)
                              refine At.run 1 rfl ?_
                              refine At.nil ?_
                              refine At.ibn ?_
                              refine At.thn ?_
                              exact fun a w e hs => J2753 ((x2525 ++ [x3776]), x3781, (x2525 ++ [x3776]).length, A3797, c3798) ⟨hrun, rfl⟩ a w (e.sub ⟨rfl, rfl, rfl, rfl, rfl, trivial⟩) hs
                          · clear hit3790 m3788
                            rintro m3788 ⟨x3569, x3574, x3575, w3570, w3572, w3573⟩ ⟨hit3790, hn3571⟩
                            obtain rfl : x3569.length = w3570 := hn3571
                            obtain ⟨m3789, f_, hlt3791, hf_, hrun⟩ := bit hit3790
                            clear hit3790
                            have hrun : (bailiffref15_Components.l3b a0 x1899 x2531 x3569 x3574 x3575).bind _ = some o3785 := hrun
                            unfold bailiffref15_Components.l3b at hrun
                            · refine At.seq ?_
                              refine At.seq ?_
                              refine At.region ?_
                              refine At.run 3 rfl ?_
                              refine At.nil ?_
                              refine At.thn ?_
                              rcases bite hrun with ⟨h3799, hrun⟩ | ⟨h3799, hrun⟩
                              · · refine At.condT rfl (decide_eq_true h3799) ?_
                                  refine At.skip ?_
                                  refine At.thn ?_
                                  refine At.seq ?_
                                  obtain ⟨G3800, hl3801, hr3802, hrun⟩ := bjoin hrun
                                  refine At.join (X := (List Bool) × (List Int) × Nat × (Option Addr) × Nat) (fun s_ => [(3, .int .i64 (a0.length : Int)), (6, .slice w1902 x1899.length w1903), (8, .slice A1915 ((List.replicate (a0.length : Int).toNat (false : Bool)).length) c1916), (9, .slice w2528 x2525.length w2529), (10, .int .i64 x2531), (11, .slice s_.2.2.2.1 s_.2.2.1 s_.2.2.2.2), (12, .int .i64 x3575)]) (fun s_ => row Fl.bool 4 A1915 ((List.replicate (a0.length : Int).toNat (false : Bool)).length) c1916 s_.1 :: row (Fl.int .i64) 3 s_.2.2.2.1 s_.2.2.1 s_.2.2.2.2 s_.2.1 :: rows (Fl.int .i64) 3 26 w2528 x2525.length w2529 x2525 :: rows Fl.bool 4 31 w1902 x1899.length w1903 x1899 :: row Fl.bool 4 A268 ((List.replicate (a0.length : Int).toNat (false : Bool)).length) c269 x1075 :: Fr) (fun s_ => G3800 (.inl (s_.1, s_.2.1)) = some o3785 ∧ s_.2.1.length = s_.2.2.1) ?_ (fun J3803 => ?_)
                                  · rintro ⟨x4004, x4005, w4006, w4008, w4009⟩ ⟨hrun, hn4007⟩
                                    obtain rfl : x4005.length = w4006 := hn4007
                                    have hrun := (hl3801 _).symm.trans hrun
                                    · refine At.region ?_
                                      refine At.run 3 rfl ?_
                                      refine At.nil ?_
                                      refine At.frt (.s (.s (.s (.s .z)))) ?_
                                      refine At.frt (.s (.s (.s (.s .z)))) ?_
                                      refine At.frt (.s (.s .z)) ?_
                                      refine At.frt (.s (.s (.s (.s .z)))) ?_
                                      refine At.frt (.s (.s (.s (.s .z)))) ?_
                                      have hrun := bnx hf_ hrun
                                      exact fun a w e hs => ⟨m3789, (x4005, x4004, IntKind.i64.wrap (x3575 + 1), x4005.length, w4008, w4009), hlt3791, ⟨hrun, rfl⟩, e.sub ⟨rfl, rfl, rfl, rfl, rfl, rfl, rfl, trivial⟩, hs⟩
                                  · · refine At.block ?_
                                      refine At.seq ?_
                                      refine At.region ?_
                                      refine At.run 4 rfl ?_
                                      obtain ⟨G4211, hl4212, hr4213, hrun⟩ := bjoin hrun
                                      refine At.joinO 17 (X := Bool) (fun x4210 => [(3, .int .i64 (a0.length : Int)), (6, .slice w1902 x1899.length w1903), (8, .slice A1915 ((List.replicate (a0.length : Int).toNat (false : Bool)).length) c1916), (9, .slice w2528 x2525.length w2529), (10, .int .i64 x2531), (11, .slice w3572 x3569.length w3573), (12, .int .i64 x3575), (74, .bool x4210)]) (fun x4210 => row (Fl.int .i64) 3 w3572 x3569.length w3573 x3569 :: rows (Fl.int .i64) 3 26 w2528 x2525.length w2529 x2525 :: row Fl.bool 4 A1915 ((List.replicate (a0.length : Int).toNat (false : Bool)).length) c1916 x3574 :: rows Fl.bool 4 31 w1902 x1899.length w1903 x1899 :: row Fl.bool 4 A268 ((List.replicate (a0.length : Int).toNat (false : Bool)).length) c269 x1075 :: Fr) (fun x4210 => G4211 (.inl x4210) = some o3785) ?_ (fun J4214 => ?_)
                                      · rintro x4210 hrun
                                        have hrun := (hl4212 _).symm.trans hrun
                                        · refine At.nil ?_
                                          refine At.thn ?_
                                          rcases bite hrun with ⟨h4215, hrun⟩ | ⟨h4215, hrun⟩
                                          · · refine At.condT rfl h4215 ?_
                                              refine At.seq ?_
                                              refine At.region ?_
                                              refine At.run 2 rfl ?_
                                              refine At.lit rfl (xo := [.tmp 76]) (ys := ([x3575] : List Int)) (Fl.int .i64) rfl rfl rfl rfl rfl rfl rfl rfl rfl rfl rfl (fun A4216 c4217 => ?_)
                                              obtain ⟨h4219, hrun⟩ := bnone hrun
                                              refine At.append rfl (.s .z) (Src.own .z (by simp)) rfl rfl rfl rfl rfl rfl rfl rfl h4219 (by decide) rfl (fun A4220 c4221 => ?_)
                                              refine At.drop (.s .z) ?_
                                              refine At.run 1 rfl ?_
                                              refine At.nil ?_
                                              refine At.thn ?_
                                              refine At.region ?_
                                              refine At.run 2 rfl ?_
                                              obtain ⟨h4222, hrun⟩ := bnone hrun
                                              refine At.y (Y.ix (.s (.s .z)) rfl rfl rfl rfl rfl rfl h4222.1 h4222.2) rfl rfl rfl ?_
                                              refine At.st rfl (.s (.s .z)) (q := 0) (z := true) rfl rfl rfl h4222.1 h4222.2 rfl rfl (.c .n) ?_
                                              refine At.nil ?_
                                              refine At.ibn ?_
                                              refine At.thn ?_
                                              exact fun a w e hs => J3803 ((st x3574 x3575 true), (x3569 ++ ([x3575] : List Int)), (x3569 ++ ([x3575] : List Int)).length, A4220, c4221) ⟨hrun, rfl⟩ a w (e.sub ⟨rfl, rfl, rfl, rfl, rfl, rfl, rfl, trivial⟩) hs
                                          · · refine At.condF rfl (bn h4215) ?_
                                              refine At.skip ?_
                                              refine At.ibn ?_
                                              refine At.thn ?_
                                              refine At.frt (.s (.s (.s (.s .z)))) ?_
                                              refine At.frt (.s (.s (.s (.s .z)))) ?_
                                              refine At.frt (.s (.s (.s .z))) ?_
                                              refine At.frt (.s (.s (.s .z))) ?_
                                              refine At.frt (.s (.s (.s (.s .z)))) ?_
                                              exact fun a w e hs => J3803 (x3574, x3569, x3569.length, w3572, w3573) ⟨hrun, rfl⟩ a w (e.sub ⟨rfl, rfl, rfl, rfl, rfl, rfl, rfl, trivial⟩) hs
                                      · · rcases bite hrun with ⟨h4223, hrun⟩ | ⟨h4223, hrun⟩
                                          · · refine At.know (t := 57) rfl (decide_eq_true h4223) ?_
                                              refine At.run 17 rfl ?_
                                              exact At.of (J4214 true hrun) ⟨rfl, rfl, rfl, rfl, rfl, rfl, rfl, rfl, trivial⟩
                                          · · refine At.know (t := 57) rfl (decide_eq_false h4223) ?_
                                              refine At.run 2 rfl ?_
                                              refine At.freezeRows (.s (.s (.s .z))) fun R4224 hr4225 hn4226 hc4227 hs4228 th4229 => ?_
                                              obtain ⟨h4230, hrun⟩ := bnone hrun
                                              refine At.y (Y.ixRd hr4225 hn4226 rfl rfl rfl rfl rfl rfl h4230.1 h4230.2) rfl rfl rfl ?_
                                              obtain ⟨A4231, c4232, hc4233, hr4234, hy4235⟩ := RdS.rowAt (P := Go.Proofs.Try.prog) hr4225 (Sub.refl _) hn4226 h4230.1 h4230.2
                                              refine At.y (hy4235 rfl rfl rfl rfl) rfl rfl rfl ?_
                                              refine At.run 1 rfl ?_
                                              obtain ⟨h4236, hrun⟩ := bnone hrun
                                              refine At.y (Y.ixRd hr4234 rfl rfl rfl rfl rfl rfl rfl h4236.1 h4236.2) rfl rfl rfl ?_
                                              refine At.y (Y.ldFl hr4234 rfl (q := 0) rfl rfl h4236.1 h4236.2 rfl rfl rfl) rfl rfl rfl ?_
                                              refine At.run 1 rfl ?_
                                              obtain ⟨G4439, hl4440, hr4441, hrun⟩ := bjoin hrun
                                              refine At.joinO 8 (X := Bool × Bool) (fun s_ => [(3, .int .i64 (a0.length : Int)), (6, .slice w1902 x1899.length w1903), (8, .slice A1915 ((List.replicate (a0.length : Int).toNat (false : Bool)).length) c1916), (9, .slice w2528 x2525.length w2529), (10, .int .i64 x2531), (11, .slice w3572 x3569.length w3573), (12, .int .i64 x3575), (57, .bool false), (58, .slice w1902 x1899.length w1903), (59, .int .i64 x2531), (60, elp w1902 (x2531.toNat * ((Fl.bool.rep).slice).sz)), (61, .slice A4231 ((gt x1899 x2531).length) c4232), (62, .int .i64 x3575), (63, elp A4231 (x3575.toNat * Fl.bool.sz)), (64, .bool (gt (gt x1899 x2531) x3575)), (65, .bool s_.1), (73, .bool s_.2)]) (fun s_ => row (Fl.int .i64) 3 w3572 x3569.length w3573 x3569 :: rows (Fl.int .i64) 3 26 w2528 x2525.length w2529 x2525 :: row Fl.bool 4 A1915 ((List.replicate (a0.length : Int).toNat (false : Bool)).length) c1916 x3574 :: row Fl.bool 4 A268 ((List.replicate (a0.length : Int).toNat (false : Bool)).length) c269 x1075 :: Fr) (fun s_ => G4439 (.inl (s_.1, s_.2)) = some o3785) ?_ (fun J4442 => ?_)
                                              · rintro ⟨x4437, x4438⟩ hrun
                                                have hrun := (hl4440 _).symm.trans hrun
                                                · refine At.run 1 rfl ?_
                                                  refine At.thaw th4229 ?_
                                                  refine At.frt (.s (.s (.s (.s .z)))) ?_
                                                  refine At.frt (.s .z) ?_
                                                  refine At.frt (.s (.s (.s (.s .z)))) ?_
                                                  refine At.frt (.s (.s (.s (.s .z)))) ?_
                                                  refine At.frt (.s (.s (.s (.s .z)))) ?_
                                                  exact At.of (J4214 x4438 hrun) ⟨rfl, rfl, rfl, rfl, rfl, rfl, rfl, rfl, trivial⟩
                                              · · rcases bite hrun with ⟨h4443, hrun⟩ | ⟨h4443, hrun⟩
                                                  · · refine At.know (t := 65) rfl h4443 ?_
                                                      refine At.run 2 rfl ?_
                                                      obtain ⟨h4444, hrun⟩ := bnone hrun
                                                      refine At.y (Y.ixRd hr4225 hn4226 rfl rfl rfl rfl rfl rfl h4444.1 h4444.2) rfl rfl rfl ?_
                                                      obtain ⟨A4445, c4446, hc4447, hr4448, hy4449⟩ := RdS.rowAt (P := Go.Proofs.Try.prog) hr4225 (Sub.refl _) hn4226 h4444.1 h4444.2
                                                      refine At.y (hy4449 rfl rfl rfl rfl) rfl rfl rfl ?_
                                                      refine At.run 1 rfl ?_
                                                      obtain ⟨h4450, hrun⟩ := bnone hrun
                                                      refine At.y (Y.ixRd hr4448 rfl rfl rfl rfl rfl rfl rfl h4450.1 h4450.2) rfl rfl rfl ?_
                                                      refine At.y (Y.ldFl hr4448 rfl (q := 0) rfl rfl h4450.1 h4450.2 rfl rfl rfl) rfl rfl rfl ?_
                                                      refine At.run 1 rfl ?_
                                                      exact At.of (J4442 (true, gt (gt x1899 x3575) x2531) hrun) ⟨rfl, rfl, rfl, rfl, rfl, rfl, rfl, rfl, rfl, rfl, rfl, rfl, rfl, rfl, rfl, rfl, rfl, trivial⟩
                                                  · · refine At.know (t := 65) rfl (bn h4443) ?_
                                                      refine At.run 8 rfl ?_
                                                      exact At.of (J4442 (false, false) hrun) ⟨rfl, rfl, rfl, rfl, rfl, rfl, rfl, rfl, rfl, rfl, rfl, rfl, rfl, rfl, rfl, rfl, rfl, trivial⟩
                              · · refine At.condF rfl (decide_eq_false h3799) ?_
                                  refine At.exit ?_
                                  refine At.the ?_
                                  refine At.the ?_
                                  exact fun a w e hs => J3792 (x3569, x3574, x3569.length, w3572, w3573) ⟨(bdn hrun ho3787), rfl⟩ a w (e.sub ⟨rfl, rfl, rfl, rfl, rfl, rfl, trivial⟩) hs
              · · refine At.condF rfl (decide_eq_false h2749) ?_
                  refine At.exit ?_
                  refine At.the ?_
                  refine At.the ?_
                  exact fun a w e hs => J2748 (x2525, x2530, x2525.length, w2528, w2529) ⟨(bdn hrun ho2743), rfl⟩ a w (e.sub ⟨rfl, trivial⟩) hs
      · clear hit1912 m1910
        rintro m1910 ⟨x1693, x1698, w1694, w1696, w1697⟩ ⟨hit1912, hn1695⟩
        obtain rfl : x1693.length = w1694 := hn1695
        obtain ⟨m1911, f_, hlt1913, hf_, hrun⟩ := bit hit1912
        clear hit1912
        have hrun : (bailiffref15_Components.l1b a0 x1075 x1693 x1698).bind _ = some o1907 := hrun
        unfold bailiffref15_Components.l1b at hrun
        · refine At.seq ?_
          refine At.seq ?_
          refine At.region ?_
          refine At.run 3 rfl ?_
          refine At.nil ?_
          refine At.thn ?_
          rcases bite hrun with ⟨h4451, hrun⟩ | ⟨h4451, hrun⟩
          · · refine At.condT rfl (decide_eq_true h4451) ?_
              refine At.skip ?_
              refine At.thn ?_
              refine At.seq ?_
              refine At.block ?_
              refine At.region ?_
              refine At.run 4 rfl ?_
              refine At.freeze (.s .z) fun R4452 hr4453 hn4454 hc4455 hs4456 th4457 => ?_
              obtain ⟨t4458, hc4459, hrun⟩ := bbind hrun
              refine At.call rfl bailiffref15_Reach.callee rfl rfl rfl (bailiffref15_Reach.spec _ _ A0 a0.length c0 A268 ((List.replicate (a0.length : Int).toNat (false : Bool)).length) c269 a0 x1698 x1075 (RdS.mono hs4456 hr0) rfl hc0 hr4453 hn4454 hc4455 hc4459) ?_
              rintro _ _ ⟨w4460, w4461, rfl, rfl⟩
              refine At.litV rfl (xo := [.tmp 34]) (vs := [.slice w4460 ((List.replicate (a0.length : Int).toNat (false : Bool)).length) w4461]) rfl rfl rfl rfl rfl rfl rfl rfl rfl rfl rfl (fun A4463 c4464 => ?_)
              obtain ⟨h4466, hrun⟩ := bnone hrun
              refine At.appendRow rfl (.s (.s .z)) .z .z rfl rfl rfl rfl rfl rfl rfl rfl h4466 (by decide) rfl (fun A4467 c4468 => ?_)
              refine At.run 1 rfl ?_
              refine At.nil ?_
              refine At.ibn ?_
              refine At.thn ?_
              refine At.region ?_
              refine At.run 3 rfl ?_
              refine At.nil ?_
              refine At.thaw th4457 ?_
              refine At.frt (.s .z) ?_
              have hrun := bnx hf_ hrun
              exact fun a w e hs => ⟨m1911, ((x1693 ++ [t4458]), IntKind.i64.wrap (x1698 + 1), (x1693 ++ [t4458]).length, A4467, c4468), hlt1913, ⟨hrun, rfl⟩, e.sub ⟨rfl, rfl, rfl, rfl, rfl, trivial⟩, hs⟩
          · · refine At.condF rfl (decide_eq_false h4451) ?_
              refine At.exit ?_
              refine At.the ?_
              refine At.the ?_
              exact fun a w e hs => J1914 (x1693, x1693.length, w1696, w1697) ⟨(bdn hrun ho1909), rfl⟩ a w (e.sub ⟨rfl, rfl, trivial⟩) hs
  · clear hit1084 m1082
    rintro m1082 ⟨x873, x874⟩ hit1084
    obtain ⟨m1083, f_, hlt1085, hf_, hrun⟩ := bit hit1084
    clear hit1084
    have hrun : (bailiffref15_Components.l0b a0 x873 x874).bind _ = some o1079 := hrun
    unfold bailiffref15_Components.l0b at hrun
    · refine At.seq ?_
      refine At.seq ?_
      refine At.region ?_
      refine At.run 3 rfl ?_
      refine At.nil ?_
      refine At.thn ?_
      rcases bite hrun with ⟨h4469, hrun⟩ | ⟨h4469, hrun⟩
      · · refine At.condT rfl (decide_eq_true h4469) ?_
          refine At.skip ?_
          refine At.thn ?_
          refine At.seq ?_
          refine At.block ?_
          refine At.region ?_
          refine At.run 2 rfl ?_
          obtain ⟨h4470, hrun⟩ := bnone hrun
          refine At.y (Y.ix .z rfl rfl rfl rfl rfl rfl h4470.1 h4470.2) rfl rfl rfl ?_
          refine At.st rfl .z (q := 0) (z := true) rfl rfl rfl h4470.1 h4470.2 rfl rfl (.c .n) ?_
          refine At.nil ?_
          refine At.ibn ?_
          refine At.thn ?_
          refine At.region ?_
          refine At.run 3 rfl ?_
          refine At.nil ?_
          have hrun := bnx hf_ hrun
          exact fun a w e hs => ⟨m1083, ((st x873 x874 true), IntKind.i64.wrap (x874 + 1)), hlt1085, hrun, e.sub ⟨rfl, rfl, rfl, rfl, trivial⟩, hs⟩
      · · refine At.condF rfl (decide_eq_false h4469) ?_
          refine At.exit ?_
          refine At.the ?_
          refine At.the ?_
          exact fun a w e hs => J1086 x873 (bdn hrun ho1081) a w (e.sub ⟨rfl, rfl, rfl, trivial⟩) hs

end Go.Bw
