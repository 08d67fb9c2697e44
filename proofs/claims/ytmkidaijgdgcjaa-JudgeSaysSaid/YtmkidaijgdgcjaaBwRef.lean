/- Walks: what the functions of the program compute, told by plain functions, and that the calls come to them. Conditions: none. -/
import Derived.Test.YtmkidaijgdgcjaaBwTyx
import Derived.Test.YtmkidaijgdgcjaaProg
import Derived.Test.YtmkidaijgdgcjaaBwLay
import Derived.Test.YtmkidaijgdgcjaaBwSortI
import Derived.Test.YtmkidaijgdgcjaaBwSortF
import Derived.Deep.QuietTactic
set_option linter.unusedVariables false
set_option linter.unusedSimpArgs false
set_option linter.unusedSectionVars false
namespace Go.Bw
open Go Go.RowKit Go.Proofs
noncomputable def bailiffref15_of.f (a0 : List Int) (a1 : Int) : Option Int :=
  if (a0.length : Int) ≤ a1 then
    some 0
  else
    if (0 : Int) ≤ a1 ∧ a1 < (a0.length : Int) then
      some (gt a0 a1)
    else none
theorem bailiffref15_of.callee : Callee Go.Proofs.Try.prog 41 := ⟨_, Go.Proofs.Try.func41, by kernel_rfl, by kernel_rfl⟩
set_option maxRecDepth 100000 in
set_option maxHeartbeats 2000000 in
theorem bailiffref15_of.spec (R : Res) (Fr : List HProp) (A0 : Option Addr) (n0 : Nat) (c0 : Nat) (a0 : List Int) (a1 : Int) (hr0 : RdS (Fl.int .i64).rep R.heap A0 a0) (hn0 : a0.length = n0) (hc0 : n0 ≤ c0) {r : Int} (hrun : bailiffref15_of.f a0 a1 = some r) :
    Spec Go.Proofs.Try.prog 41 [.slice A0 n0 c0, .int .i64 a1] R (Fr) (fun v l' => v = .int .i64 r ∧ Fr = l') := by
  subst hn0; refine Spec.of Go.Proofs.Try.func41 rfl rfl ?_; unfold bailiffref15_of.f at hrun; have hrun := brun hrun; refine At.seq ?_; refine At.region ?_; refine At.run 1 rfl ?_; refine At.nil ?_; refine At.thn ?_; refine At.seq ?_; refine At.seq ?_; refine At.region ?_; refine At.run 4 rfl ?_; refine At.nil ?_; refine At.thn ?_; rcases bite hrun with ⟨h252, hrun⟩ | ⟨h252, hrun⟩
  · · refine At.condT rfl (decide_eq_true h252) ?_
      refine At.seq ?_; refine At.region ?_; refine At.run 1 rfl ?_; refine At.nil ?_; refine At.thn ?_; refine At.ret ?_; refine At.thr ?_; obtain rfl := (bret hrun).symm; exact At.res (.inl rfl) rfl rfl ⟨rfl, rfl⟩
  · · refine At.condF rfl (decide_eq_false h252) ?_
      refine At.skip ?_; refine At.thn ?_; refine At.seq ?_; refine At.region ?_; refine At.run 2 rfl ?_; obtain ⟨h253, hrun⟩ := bnone hrun; refine At.y (Y.ixRd hr0 rfl rfl rfl rfl rfl rfl rfl h253.1 h253.2) rfl rfl rfl ?_; refine At.y (Y.ldFl hr0 rfl (q := 0) rfl rfl h253.1 h253.2 rfl rfl rfl) rfl rfl rfl ?_; refine At.run 1 rfl ?_; refine At.nil ?_; refine At.thn ?_; refine At.ret ?_; obtain rfl := (bret hrun).symm; exact At.res (.inl rfl) rfl rfl ⟨rfl, rfl⟩

noncomputable def bailiffref15_Reach.l1b (a0 : List (List Int)) (a2 : List Bool) (x872 : List Int) (x1705 : List Int) (x1710 : List Bool) (x1711 : Int) : Option (((List Int) × (List Bool) × Int) ⊕ (((List Int) × (List Bool)) ⊕ (((List Int) × (List Bool)) ⊕ (((List Int) × (List Bool)) ⊕ ((List Bool)))))) :=
  if (0 : Int) ≤ gt x872 (IntKind.i64.wrap ((x872.length : Int) - 1)) ∧ gt x872 (IntKind.i64.wrap ((x872.length : Int) - 1)) < (a0.length : Int) then
    if x1711 < ((gt a0 (gt x872 (IntKind.i64.wrap ((x872.length : Int) - 1)))).length : Int) then
      jn (
        if (0 : Int) ≤ x1711 ∧ x1711 < ((gt a0 (gt x872 (IntKind.i64.wrap ((x872.length : Int) - 1)))).length : Int) then
          jn (
            if 0 ≤ gt (gt a0 (gt x872 (IntKind.i64.wrap ((x872.length : Int) - 1)))) x1711 then
              some (.inl (decide (gt (gt a0 (gt x872 (IntKind.i64.wrap ((x872.length : Int) - 1)))) x1711 < (a0.length : Int))))
            else
              some (.inl false)) (fun (x2352 : Bool) =>
            jn (
              if x2352 = true then
                if (0 : Int) ≤ gt (gt a0 (gt x872 (IntKind.i64.wrap ((x872.length : Int) - 1)))) x1711 ∧ gt (gt a0 (gt x872 (IntKind.i64.wrap ((x872.length : Int) - 1)))) x1711 < (a2.length : Int) then
                  some (.inl (gt a2 (gt (gt a0 (gt x872 (IntKind.i64.wrap ((x872.length : Int) - 1)))) x1711)))
                else none
              else
                some (.inl false)) (fun (x2557 : Bool) =>
              jn (
                if x2557 = true then
                  if (0 : Int) ≤ gt (gt a0 (gt x872 (IntKind.i64.wrap ((x872.length : Int) - 1)))) x1711 ∧ gt (gt a0 (gt x872 (IntKind.i64.wrap ((x872.length : Int) - 1)))) x1711 < ((List.replicate (a0.length : Int).toNat (false : Bool)).length : Int) then
                    some (.inl (!(gt x1710 (gt (gt a0 (gt x872 (IntKind.i64.wrap ((x872.length : Int) - 1)))) x1711))))
                  else none
                else
                  some (.inl false)) (fun (x2762 : Bool) =>
                if x2762 = true then
                  if (0 : Int) ≤ gt (gt a0 (gt x872 (IntKind.i64.wrap ((x872.length : Int) - 1)))) x1711 ∧ gt (gt a0 (gt x872 (IntKind.i64.wrap ((x872.length : Int) - 1)))) x1711 < ((List.replicate (a0.length : Int).toNat (false : Bool)).length : Int) then
                    if (x1705.length + ([(gt (gt a0 (gt x872 (IntKind.i64.wrap ((x872.length : Int) - 1)))) x1711)] : List Int).length) * 8 ≤ 140737488355328 then
                      some (.inl ((x1705 ++ ([(gt (gt a0 (gt x872 (IntKind.i64.wrap ((x872.length : Int) - 1)))) x1711)] : List Int)), (st x1710 (gt (gt a0 (gt x872 (IntKind.i64.wrap ((x872.length : Int) - 1)))) x1711) true)))
                    else none
                  else none
                else
                  some (.inl (x1705, x1710)))))
        else none) (fun (s_ : (List Int) × (List Bool)) =>
        nx (s_.1, s_.2, IntKind.i64.wrap (x1711 + 1)))
    else
      dn (.inl (x1705, x1710))
  else none
noncomputable def bailiffref15_Reach.l1 (a0 : List (List Int)) (a2 : List Bool) (x872 : List Int) (x1705 : List Int) (x1710 : List Bool) (x1711 : Int) : Option (((List Int) × (List Bool)) ⊕ (((List Int) × (List Bool)) ⊕ (((List Int) × (List Bool)) ⊕ ((List Bool))))) := iter (fun t_ : (List Int) × (List Bool) × Int => bailiffref15_Reach.l1b a0 a2 x872 t_.1 t_.2.1 t_.2.2) (x1705, x1710, x1711)
noncomputable def bailiffref15_Reach.l0b (a0 : List (List Int)) (a2 : List Bool) (x872 : List Int) (x877 : List Bool) : Option (((List Int) × (List Bool)) ⊕ (((List Int) × (List Bool)) ⊕ ((List Bool)))) :=
  if 0 < (x872.length : Int) then
    if (0 : Int) ≤ IntKind.i64.wrap ((x872.length : Int) - 1) ∧ IntKind.i64.wrap ((x872.length : Int) - 1) < (x872.length : Int) then
      if (0 : Int) ≤ IntKind.i64.wrap ((x872.length : Int) - 1) ∧ IntKind.i64.wrap ((x872.length : Int) - 1) ≤ (x872.length : Int) then
        jn (bailiffref15_Reach.l1 a0 a2 x872 (x872.take (IntKind.i64.wrap ((x872.length : Int) - 1)).toNat) x877 0) (fun (s_ : (List Int) × (List Bool)) =>
          nx (s_.1, s_.2))
      else none
    else none
  else
    dn (.inl (x872, x877))
noncomputable def bailiffref15_Reach.l0 (a0 : List (List Int)) (a2 : List Bool) (x872 : List Int) (x877 : List Bool) : Option (((List Int) × (List Bool)) ⊕ ((List Bool))) := iter (fun t_ : (List Int) × (List Bool) => bailiffref15_Reach.l0b a0 a2 t_.1 t_.2) (x872, x877)
noncomputable def bailiffref15_Reach.f (a0 : List (List Int)) (a1 : Int) (a2 : List Bool) : Option (List Bool) :=
  if (0 : Int) ≤ (a0.length : Int) ∧ (1 : Int) * (a0.length : Int) ≤ 281474976710656 then
    jn (bailiffref15_Reach.l0 a0 a2 ([a1] : List Int) (List.replicate (a0.length : Int).toNat (false : Bool))) (fun (s_ : (List Int) × (List Bool)) =>
      some s_.2)
  else none
theorem bailiffref15_Reach.callee : Callee Go.Proofs.Try.prog 35 := ⟨_, Go.Proofs.Try.func35, by kernel_rfl, by kernel_rfl⟩
set_option maxRecDepth 100000 in
set_option maxHeartbeats 2000000 in
theorem bailiffref15_Reach.spec (R : Res) (Fr : List HProp) (A0 : Option Addr) (n0 : Nat) (c0 : Nat) (A2 : Option Addr) (n2 : Nat) (c2 : Nat) (a0 : List (List Int)) (a1 : Int) (a2 : List Bool) (hr0 : RdS ((Fl.int .i64).rep).slice R.heap A0 a0) (hn0 : a0.length = n0) (hc0 : n0 ≤ c0) (hr2 : RdS Fl.bool.rep R.heap A2 a2) (hn2 : a2.length = n2) (hc2 : n2 ≤ c2) {r : (List Bool)} (hrun : bailiffref15_Reach.f a0 a1 a2 = some r) :
    Spec Go.Proofs.Try.prog 35 [.slice A0 n0 c0, .int .i64 a1, .slice A2 n2 c2] R (Fr) (fun v l' => ∃ (w257 : Option Addr) (w258 : Nat), v = .slice w257 ((List.replicate (n0 : Int).toNat (false : Bool)).length) w258 ∧ row Fl.bool 4 w257 ((List.replicate (n0 : Int).toNat (false : Bool)).length) w258 r :: Fr = l') := by
  subst hn0; subst hn2; refine Spec.of Go.Proofs.Try.func35 rfl rfl ?_; unfold bailiffref15_Reach.f at hrun; have hrun := brun hrun; refine At.seq ?_; refine At.region ?_; refine At.run 1 rfl ?_; refine At.nil ?_; refine At.thn ?_; refine At.seq ?_; refine At.region ?_; refine At.run 3 rfl ?_; refine At.nil ?_; refine At.thn ?_; refine At.seq ?_; refine At.region ?_; refine At.run 1 rfl ?_; obtain ⟨h259, hrun⟩ := bnone hrun; refine At.make (F := Fl.bool) (z := false) rfl rfl rfl rfl rfl rfl rfl rfl rfl rfl h259.1 h259.2 (by decide) rfl (fun A260 c261 => ?_); refine At.run 1 rfl ?_; refine At.nil ?_; refine At.thn ?_; refine At.seq ?_; refine At.region ?_; refine At.run 1 rfl ?_; refine At.lit rfl (xo := [.tmp 17]) (ys := ([a1] : List Int)) (Fl.int .i64) rfl rfl rfl rfl rfl rfl rfl rfl rfl rfl rfl (fun A263 c264 => ?_); refine At.run 1 rfl ?_; refine At.nil ?_; refine At.thn ?_; refine At.seq ?_; refine At.block ?_; obtain ⟨G1084, hl1085, hr1086, hrun⟩ := bjoin hrun; obtain ⟨o1087, hlo1088, ho1089⟩ := bsome hrun; clear hrun; unfold bailiffref15_Reach.l0 at hlo1088; obtain ⟨m1090, hit1092⟩ := iter_some.1 hlo1088; clear hlo1088; refine At.loopJ (X := (List Int) × (List Bool) × Nat × (Option Addr) × Nat) (Y := (List Int) × (List Bool) × Nat × (Option Addr) × Nat) (e0 := 0) (fun s_ => [(0, .slice A0 a0.length c0), (2, .slice A2 a2.length c2), (7, .int .i64 (a0.length : Int)), (8, .slice A260 ((List.replicate (a0.length : Int).toNat (false : Bool)).length) c261), (9, .slice s_.2.2.2.1 s_.2.2.1 s_.2.2.2.2)]) (fun s_ => row (Fl.int .i64) 3 s_.2.2.2.1 s_.2.2.1 s_.2.2.2.2 s_.1 :: row Fl.bool 4 A260 ((List.replicate (a0.length : Int).toNat (false : Bool)).length) c261 s_.2.1 :: Fr) (fun m_ => fun s_ => iterN (fun t_ : (List Int) × (List Bool) => bailiffref15_Reach.l0b a0 a2 t_.1 t_.2) m_ (s_.1, s_.2.1) = some o1087 ∧ s_.1.length = s_.2.2.1) m1090 (([a1] : List Int), (List.replicate (a0.length : Int).toNat (false : Bool)), ([a1] : List Int).length, A263, c264) ⟨hit1092, rfl⟩ (fun s_ => [(8, .slice A260 ((List.replicate (a0.length : Int).toNat (false : Bool)).length) c261)]) (fun s_ => row (Fl.int .i64) 3 s_.2.2.2.1 s_.2.2.1 s_.2.2.2.2 s_.1 :: row Fl.bool 4 A260 ((List.replicate (a0.length : Int).toNat (false : Bool)).length) c261 s_.2.1 :: Fr) (fun s_ => G1084 (.inl (s_.1, s_.2.1)) = some r ∧ s_.1.length = s_.2.2.1) (fun a w e hs => ⟨e.sub ⟨rfl, rfl, rfl, rfl, rfl, trivial⟩, hs⟩) ?_ (fun J1094 => ?_)
  · rintro ⟨x1078, x1083, w1079, w1081, w1082⟩ ⟨hrun, hn1080⟩; obtain rfl : x1078.length = w1079 := hn1080; have hrun := (hl1085 _).symm.trans hrun
    · refine At.ibx ?_; refine At.thn ?_; refine At.seq ?_; refine At.region ?_; refine At.run 2 rfl ?_; refine At.nil ?_; refine At.thn ?_; refine At.ret ?_; refine At.drop .z ?_; obtain rfl := (bret hrun).symm; exact At.res (.inl rfl) rfl rfl ⟨A260, c261, rfl, rfl⟩
  · clear hit1092 m1090; rintro m1090 ⟨x872, x877, w873, w875, w876⟩ ⟨hit1092, hn874⟩; obtain rfl : x872.length = w873 := hn874; obtain ⟨m1091, f_, hlt1093, hf_, hrun⟩ := bit hit1092; clear hit1092; have hrun : (bailiffref15_Reach.l0b a0 a2 x872 x877).bind _ = some o1087 := hrun; unfold bailiffref15_Reach.l0b at hrun
    · refine At.seq ?_; refine At.seq ?_; refine At.region ?_; refine At.run 3 rfl ?_; refine At.nil ?_; refine At.thn ?_; rcases bite hrun with ⟨h1095, hrun⟩ | ⟨h1095, hrun⟩
      · · refine At.condT rfl (decide_eq_true h1095) ?_
          refine At.skip ?_; refine At.thn ?_; refine At.block ?_; refine At.seq ?_; refine At.region ?_; refine At.run 4 rfl ?_; obtain ⟨h1096, hrun⟩ := bnone hrun; refine At.y (Y.ix .z rfl rfl rfl rfl rfl rfl h1096.1 h1096.2) rfl rfl rfl ?_; refine At.y (Y.ld .z (q := 0) rfl rfl h1096.1 h1096.2 rfl rfl rfl) rfl rfl rfl ?_; refine At.run 1 rfl ?_; refine At.nil ?_; refine At.thn ?_; refine At.seq ?_; refine At.region ?_; refine At.run 4 rfl ?_; obtain ⟨h1097, hrun⟩ := bnone hrun; refine At.cut rfl .z rfl rfl rfl rfl rfl h1097.1 h1097.2 rfl ?_; refine At.run 1 rfl ?_; refine At.nil ?_; refine At.thn ?_; refine At.seq ?_; refine At.region ?_; refine At.run 1 rfl ?_; refine At.nil ?_; refine At.thn ?_; refine At.block ?_; obtain ⟨G1918, hl1919, hr1920, hrun⟩ := bjoin hrun; obtain ⟨o1921, hlo1922, ho1923⟩ := bsome hrun; clear hrun; unfold bailiffref15_Reach.l1 at hlo1922; obtain ⟨m1924, hit1926⟩ := iter_some.1 hlo1922; clear hlo1922; refine At.loopJ (X := (List Int) × (List Bool) × Int × Nat × (Option Addr) × Nat) (Y := (List Int) × (List Bool) × Nat × (Option Addr) × Nat) (e0 := 2) (fun s_ => [(0, .slice A0 a0.length c0), (2, .slice A2 a2.length c2), (7, .int .i64 (a0.length : Int)), (8, .slice A260 ((List.replicate (a0.length : Int).toNat (false : Bool)).length) c261), (9, .slice s_.2.2.2.2.1 s_.2.2.2.1 s_.2.2.2.2.2), (10, .int .i64 (gt x872 (IntKind.i64.wrap ((x872.length : Int) - 1)))), (11, .int .i64 s_.2.2.1)]) (fun s_ => row (Fl.int .i64) 3 s_.2.2.2.2.1 s_.2.2.2.1 s_.2.2.2.2.2 s_.1 :: row Fl.bool 4 A260 ((List.replicate (a0.length : Int).toNat (false : Bool)).length) c261 s_.2.1 :: Fr) (fun m_ => fun s_ => iterN (fun t_ : (List Int) × (List Bool) × Int => bailiffref15_Reach.l1b a0 a2 x872 t_.1 t_.2.1 t_.2.2) m_ (s_.1, s_.2.1, s_.2.2.1) = some o1921 ∧ s_.1.length = s_.2.2.2.1) m1924 ((x872.take (IntKind.i64.wrap ((x872.length : Int) - 1)).toNat), x877, 0, (x872.take (IntKind.i64.wrap ((x872.length : Int) - 1)).toNat).length, w875, w876) ⟨hit1926, rfl⟩ (fun s_ => [(0, .slice A0 a0.length c0), (2, .slice A2 a2.length c2), (7, .int .i64 (a0.length : Int)), (8, .slice A260 ((List.replicate (a0.length : Int).toNat (false : Bool)).length) c261), (9, .slice s_.2.2.2.1 s_.2.2.1 s_.2.2.2.2)]) (fun s_ => row (Fl.int .i64) 3 s_.2.2.2.1 s_.2.2.1 s_.2.2.2.2 s_.1 :: row Fl.bool 4 A260 ((List.replicate (a0.length : Int).toNat (false : Bool)).length) c261 s_.2.1 :: Fr) (fun s_ => G1918 (.inl (s_.1, s_.2.1)) = some o1087 ∧ s_.1.length = s_.2.2.1) (fun a w e hs => ⟨e.sub ⟨rfl, rfl, rfl, rfl, rfl, rfl, rfl, trivial⟩, hs⟩) ?_ (fun J1928 => ?_)
          · rintro ⟨x1912, x1917, w1913, w1915, w1916⟩ ⟨hrun, hn1914⟩; obtain rfl : x1912.length = w1913 := hn1914; have hrun := (hl1919 _).symm.trans hrun
            · refine At.ibx ?_; refine At.ibn ?_; have hrun := bnx hf_ hrun; exact fun a w e hs => ⟨m1091, (x1912, x1917, x1912.length, w1915, w1916), hlt1093, ⟨hrun, rfl⟩, e.sub ⟨rfl, rfl, rfl, rfl, rfl, trivial⟩, hs⟩
          · clear hit1926 m1924; rintro m1924 ⟨x1705, x1710, x1711, w1706, w1708, w1709⟩ ⟨hit1926, hn1707⟩; obtain rfl : x1705.length = w1706 := hn1707; obtain ⟨m1925, f_, hlt1927, hf_, hrun⟩ := bit hit1926; clear hit1926; have hrun : (bailiffref15_Reach.l1b a0 a2 x872 x1705 x1710 x1711).bind _ = some o1921 := hrun; unfold bailiffref15_Reach.l1b at hrun
            · refine At.seq ?_; refine At.seq ?_; refine At.region ?_; refine At.run 3 rfl ?_; obtain ⟨h1929, hrun⟩ := bnone hrun; refine At.y (Y.ixRd hr0 rfl rfl rfl rfl rfl rfl rfl h1929.1 h1929.2) rfl rfl rfl ?_; obtain ⟨A1930, c1931, hc1932, hr1933, hy1934⟩ := RdS.rowAt (P := Go.Proofs.Try.prog) hr0 (Sub.refl _) rfl h1929.1 h1929.2; refine At.y (hy1934 rfl rfl rfl rfl) rfl rfl rfl ?_; refine At.run 2 rfl ?_; refine At.nil ?_; refine At.thn ?_; rcases bite hrun with ⟨h1935, hrun⟩ | ⟨h1935, hrun⟩
              · · refine At.condT rfl (decide_eq_true h1935) ?_
                  refine At.skip ?_; refine At.thn ?_; refine At.seq ?_; obtain ⟨G1936, hl1937, hr1938, hrun⟩ := bjoin hrun; refine At.join (X := (List Int) × (List Bool) × Nat × (Option Addr) × Nat) (fun s_ => [(0, .slice A0 a0.length c0), (2, .slice A2 a2.length c2), (7, .int .i64 (a0.length : Int)), (8, .slice A260 ((List.replicate (a0.length : Int).toNat (false : Bool)).length) c261), (9, .slice s_.2.2.2.1 s_.2.2.1 s_.2.2.2.2), (10, .int .i64 (gt x872 (IntKind.i64.wrap ((x872.length : Int) - 1)))), (11, .int .i64 x1711)]) (fun s_ => row (Fl.int .i64) 3 s_.2.2.2.1 s_.2.2.1 s_.2.2.2.2 s_.1 :: row Fl.bool 4 A260 ((List.replicate (a0.length : Int).toNat (false : Bool)).length) c261 s_.2.1 :: Fr) (fun s_ => G1936 (.inl (s_.1, s_.2.1)) = some o1921 ∧ s_.1.length = s_.2.2.1) ?_ (fun J1939 => ?_)
                  · rintro ⟨x2140, x2145, w2141, w2143, w2144⟩ ⟨hrun, hn2142⟩; obtain rfl : x2140.length = w2141 := hn2142; have hrun := (hl1937 _).symm.trans hrun
                    · refine At.region ?_; refine At.run 3 rfl ?_; refine At.nil ?_; have hrun := bnx hf_ hrun; exact fun a w e hs => ⟨m1925, (x2140, x2145, IntKind.i64.wrap (x1711 + 1), x2140.length, w2143, w2144), hlt1927, ⟨hrun, rfl⟩, e.sub ⟨rfl, rfl, rfl, rfl, rfl, rfl, rfl, trivial⟩, hs⟩
                  · · refine At.block ?_
                      refine At.seq ?_; refine At.region ?_; refine At.run 2 rfl ?_; refine At.y (Y.ixRd hr0 rfl rfl rfl rfl rfl rfl rfl h1929.1 h1929.2) rfl rfl rfl ?_; obtain ⟨A2146, c2147, hc2148, hr2149, hy2150⟩ := RdS.rowAt (P := Go.Proofs.Try.prog) hr0 (Sub.refl _) rfl h1929.1 h1929.2; refine At.y (hy2150 rfl rfl rfl rfl) rfl rfl rfl ?_; refine At.run 1 rfl ?_; obtain ⟨h2151, hrun⟩ := bnone hrun; refine At.y (Y.ixRd hr2149 rfl rfl rfl rfl rfl rfl rfl h2151.1 h2151.2) rfl rfl rfl ?_; refine At.y (Y.ldFl hr2149 rfl (q := 0) rfl rfl h2151.1 h2151.2 rfl rfl rfl) rfl rfl rfl ?_; refine At.run 1 rfl ?_; refine At.nil ?_; refine At.thn ?_; refine At.seq ?_; refine At.region ?_; refine At.run 3 rfl ?_; obtain ⟨G2353, hl2354, hr2355, hrun⟩ := bjoin hrun; refine At.joinO 4 (X := Bool) (fun x2352 => [(0, .slice A0 a0.length c0), (2, .slice A2 a2.length c2), (7, .int .i64 (a0.length : Int)), (8, .slice A260 ((List.replicate (a0.length : Int).toNat (false : Bool)).length) c261), (9, .slice w1708 x1705.length w1709), (10, .int .i64 (gt x872 (IntKind.i64.wrap ((x872.length : Int) - 1)))), (11, .int .i64 x1711), (12, .int .i64 (gt (gt a0 (gt x872 (IntKind.i64.wrap ((x872.length : Int) - 1)))) x1711)), (55, .bool x2352)]) (fun x2352 => row (Fl.int .i64) 3 w1708 x1705.length w1709 x1705 :: row Fl.bool 4 A260 ((List.replicate (a0.length : Int).toNat (false : Bool)).length) c261 x1710 :: Fr) (fun x2352 => G2353 (.inl x2352) = some o1921) ?_ (fun J2356 => ?_)
                      · rintro x2352 hrun; have hrun := (hl2354 _).symm.trans hrun
                        · refine At.run 1 rfl ?_; obtain ⟨G2558, hl2559, hr2560, hrun⟩ := bjoin hrun; refine At.joinO 5 (X := Bool) (fun x2557 => [(0, .slice A0 a0.length c0), (2, .slice A2 a2.length c2), (7, .int .i64 (a0.length : Int)), (8, .slice A260 ((List.replicate (a0.length : Int).toNat (false : Bool)).length) c261), (9, .slice w1708 x1705.length w1709), (10, .int .i64 (gt x872 (IntKind.i64.wrap ((x872.length : Int) - 1)))), (11, .int .i64 x1711), (12, .int .i64 (gt (gt a0 (gt x872 (IntKind.i64.wrap ((x872.length : Int) - 1)))) x1711)), (61, .bool x2557)]) (fun x2557 => row (Fl.int .i64) 3 w1708 x1705.length w1709 x1705 :: row Fl.bool 4 A260 ((List.replicate (a0.length : Int).toNat (false : Bool)).length) c261 x1710 :: Fr) (fun x2557 => G2558 (.inl x2557) = some o1921) ?_ (fun J2561 => ?_)
                          · rintro x2557 hrun; have hrun := (hl2559 _).symm.trans hrun
                            · refine At.run 1 rfl ?_; obtain ⟨G2763, hl2764, hr2765, hrun⟩ := bjoin hrun; refine At.joinO 6 (X := Bool) (fun x2762 => [(0, .slice A0 a0.length c0), (2, .slice A2 a2.length c2), (7, .int .i64 (a0.length : Int)), (8, .slice A260 ((List.replicate (a0.length : Int).toNat (false : Bool)).length) c261), (9, .slice w1708 x1705.length w1709), (10, .int .i64 (gt x872 (IntKind.i64.wrap ((x872.length : Int) - 1)))), (11, .int .i64 x1711), (12, .int .i64 (gt (gt a0 (gt x872 (IntKind.i64.wrap ((x872.length : Int) - 1)))) x1711)), (68, .bool x2762)]) (fun x2762 => row (Fl.int .i64) 3 w1708 x1705.length w1709 x1705 :: row Fl.bool 4 A260 ((List.replicate (a0.length : Int).toNat (false : Bool)).length) c261 x1710 :: Fr) (fun x2762 => G2763 (.inl x2762) = some o1921) ?_ (fun J2766 => ?_)
                              · rintro x2762 hrun; have hrun := (hl2764 _).symm.trans hrun
                                · refine At.nil ?_; refine At.thn ?_; rcases bite hrun with ⟨h2767, hrun⟩ | ⟨h2767, hrun⟩
                                  · · refine At.condT rfl h2767 ?_
                                      refine At.seq ?_; refine At.region ?_; refine At.run 2 rfl ?_; obtain ⟨h2768, hrun⟩ := bnone hrun; refine At.y (Y.ix (.s .z) rfl rfl rfl rfl rfl rfl h2768.1 h2768.2) rfl rfl rfl ?_; refine At.st rfl (.s .z) (q := 0) (z := true) rfl rfl rfl h2768.1 h2768.2 rfl rfl (.c .n) ?_; refine At.nil ?_; refine At.thn ?_; refine At.region ?_; refine At.run 2 rfl ?_; refine At.lit rfl (xo := [.tmp 73]) (ys := ([(gt (gt a0 (gt x872 (IntKind.i64.wrap ((x872.length : Int) - 1)))) x1711)] : List Int)) (Fl.int .i64) rfl rfl rfl rfl rfl rfl rfl rfl rfl rfl rfl (fun A2769 c2770 => ?_); obtain ⟨h2772, hrun⟩ := bnone hrun; refine At.append rfl (.s (.s .z)) (Src.own .z (by simp)) rfl rfl rfl rfl rfl rfl rfl rfl h2772 (by decide) rfl (fun A2773 c2774 => ?_); refine At.drop (.s .z) ?_; refine At.run 1 rfl ?_; refine At.nil ?_; refine At.ibn ?_; refine At.thn ?_; exact fun a w e hs => J1939 ((x1705 ++ ([(gt (gt a0 (gt x872 (IntKind.i64.wrap ((x872.length : Int) - 1)))) x1711)] : List Int)), (st x1710 (gt (gt a0 (gt x872 (IntKind.i64.wrap ((x872.length : Int) - 1)))) x1711) true), (x1705 ++ ([(gt (gt a0 (gt x872 (IntKind.i64.wrap ((x872.length : Int) - 1)))) x1711)] : List Int)).length, A2773, c2774) ⟨hrun, rfl⟩ a w (e.sub ⟨rfl, rfl, rfl, rfl, rfl, rfl, rfl, trivial⟩) hs
                                  · · refine At.condF rfl (bn h2767) ?_
                                      refine At.skip ?_; refine At.ibn ?_; refine At.thn ?_; exact fun a w e hs => J1939 (x1705, x1710, x1705.length, w1708, w1709) ⟨hrun, rfl⟩ a w (e.sub ⟨rfl, rfl, rfl, rfl, rfl, rfl, rfl, trivial⟩) hs
                              · · rcases bite hrun with ⟨h2775, hrun⟩ | ⟨h2775, hrun⟩
                                  · · refine At.know (t := 62) rfl h2775 ?_
                                      refine At.run 2 rfl ?_; obtain ⟨h2776, hrun⟩ := bnone hrun; refine At.y (Y.ix (.s .z) rfl rfl rfl rfl rfl rfl h2776.1 h2776.2) rfl rfl rfl ?_; refine At.y (Y.ld (.s .z) (q := 0) rfl rfl h2776.1 h2776.2 rfl rfl rfl) rfl rfl rfl ?_; refine At.run 2 rfl ?_; exact At.of (J2766 (!(gt x1710 (gt (gt a0 (gt x872 (IntKind.i64.wrap ((x872.length : Int) - 1)))) x1711))) hrun) ⟨rfl, rfl, rfl, rfl, rfl, rfl, rfl, rfl, rfl, trivial⟩
                                  · · refine At.know (t := 62) rfl (bn h2775) ?_
                                      refine At.run 6 rfl ?_; exact At.of (J2766 false hrun) ⟨rfl, rfl, rfl, rfl, rfl, rfl, rfl, rfl, rfl, trivial⟩
                          · · rcases bite hrun with ⟨h2777, hrun⟩ | ⟨h2777, hrun⟩
                              · · refine At.know (t := 56) rfl h2777 ?_
                                  refine At.run 2 rfl ?_; obtain ⟨h2778, hrun⟩ := bnone hrun; refine At.y (Y.ixRd hr2 rfl rfl rfl rfl rfl rfl rfl h2778.1 h2778.2) rfl rfl rfl ?_; refine At.y (Y.ldFl hr2 rfl (q := 0) rfl rfl h2778.1 h2778.2 rfl rfl rfl) rfl rfl rfl ?_; refine At.run 1 rfl ?_; exact At.of (J2561 (gt a2 (gt (gt a0 (gt x872 (IntKind.i64.wrap ((x872.length : Int) - 1)))) x1711)) hrun) ⟨rfl, rfl, rfl, rfl, rfl, rfl, rfl, rfl, rfl, trivial⟩
                              · · refine At.know (t := 56) rfl (bn h2777) ?_
                                  refine At.run 5 rfl ?_; exact At.of (J2561 false hrun) ⟨rfl, rfl, rfl, rfl, rfl, rfl, rfl, rfl, rfl, trivial⟩
                      · · rcases bite hrun with ⟨h2779, hrun⟩ | ⟨h2779, hrun⟩
                          · · refine At.know (t := 51) rfl (decide_eq_true h2779) ?_
                              refine At.run 4 rfl ?_; exact At.of (J2356 (decide (gt (gt a0 (gt x872 (IntKind.i64.wrap ((x872.length : Int) - 1)))) x1711 < (a0.length : Int))) hrun) ⟨rfl, rfl, rfl, rfl, rfl, rfl, rfl, rfl, rfl, trivial⟩
                          · · refine At.know (t := 51) rfl (decide_eq_false h2779) ?_
                              refine At.run 4 rfl ?_; exact At.of (J2356 false hrun) ⟨rfl, rfl, rfl, rfl, rfl, rfl, rfl, rfl, rfl, trivial⟩
              · · refine At.condF rfl (decide_eq_false h1935) ?_
                  refine At.exit ?_; refine At.the ?_; refine At.the ?_; exact fun a w e hs => J1928 (x1705, x1710, x1705.length, w1708, w1709) ⟨(bdn hrun ho1923), rfl⟩ a w (e.sub ⟨rfl, rfl, rfl, rfl, rfl, trivial⟩) hs
      · · refine At.condF rfl (decide_eq_false h1095) ?_
          refine At.exit ?_; refine At.the ?_; refine At.the ?_; exact fun a w e hs => J1094 (x872, x877, x872.length, w875, w876) ⟨(bdn hrun ho1089), rfl⟩ a w (e.sub ⟨rfl, trivial⟩) hs

noncomputable def bailiffref15_Tops.l0b (a0 : List (List Int)) (a1 : List Int) (a2 : Int) (x864 : List Bool) (x865 : Int) : Option (((List Bool) × Int) ⊕ (((List Bool)) ⊕ (Bool))) :=
  if x865 < (a0.length : Int) then
    (bailiffref15_of.f a1 x865).bind fun t1091 =>
      (bailiffref15_of.f a1 a2).bind fun t1093 =>
        if (0 : Int) ≤ x865 ∧ x865 < ((List.replicate (a0.length : Int).toNat (false : Bool)).length : Int) then
          nx ((st x864 x865 (decide (t1091 ≤ t1093))), IntKind.i64.wrap (x865 + 1))
        else none
  else
    dn (.inl x864)
noncomputable def bailiffref15_Tops.l0 (a0 : List (List Int)) (a1 : List Int) (a2 : Int) (x864 : List Bool) (x865 : Int) : Option (((List Bool)) ⊕ (Bool)) := iter (fun t_ : (List Bool) × Int => bailiffref15_Tops.l0b a0 a1 a2 t_.1 t_.2) (x864, x865)
noncomputable def bailiffref15_Tops.f (a0 : List (List Int)) (a1 : List Int) (a2 : Int) : Option Bool :=
  if (0 : Int) ≤ (a0.length : Int) ∧ (1 : Int) * (a0.length : Int) ≤ 281474976710656 then
    jn (bailiffref15_Tops.l0 a0 a1 a2 (List.replicate (a0.length : Int).toNat (false : Bool)) 0) (fun (x1066 : List Bool) =>
      (bailiffref15_Reach.f a0 a2 x1066).bind fun t1084 =>
        if (0 : Int) ≤ a2 ∧ a2 < ((List.replicate (a0.length : Int).toNat (false : Bool)).length : Int) then
          some (gt t1084 a2)
        else none)
  else none
theorem bailiffref15_Tops.callee : Callee Go.Proofs.Try.prog 42 := ⟨_, Go.Proofs.Try.func42, by kernel_rfl, by kernel_rfl⟩
set_option maxRecDepth 100000 in
set_option maxHeartbeats 2000000 in
theorem bailiffref15_Tops.spec (R : Res) (Fr : List HProp) (A0 : Option Addr) (n0 : Nat) (c0 : Nat) (A1 : Option Addr) (n1 : Nat) (c1 : Nat) (a0 : List (List Int)) (a1 : List Int) (a2 : Int) (hr0 : RdS ((Fl.int .i64).rep).slice R.heap A0 a0) (hn0 : a0.length = n0) (hc0 : n0 ≤ c0) (hr1 : RdS (Fl.int .i64).rep R.heap A1 a1) (hn1 : a1.length = n1) (hc1 : n1 ≤ c1) {r : Bool} (hrun : bailiffref15_Tops.f a0 a1 a2 = some r) :
    Spec Go.Proofs.Try.prog 42 [.slice A0 n0 c0, .slice A1 n1 c1, .int .i64 a2] R (Fr) (fun v l' => v = .bool r ∧ Fr = l') := by
  subst hn0; subst hn1; refine Spec.of Go.Proofs.Try.func42 rfl rfl ?_; unfold bailiffref15_Tops.f at hrun; have hrun := brun hrun; refine At.seq ?_; refine At.region ?_; refine At.run 1 rfl ?_; refine At.nil ?_; refine At.thn ?_; refine At.seq ?_; refine At.region ?_; refine At.run 2 rfl ?_; obtain ⟨h258, hrun⟩ := bnone hrun; refine At.make (F := Fl.bool) (z := false) rfl rfl rfl rfl rfl rfl rfl rfl rfl rfl h258.1 h258.2 (by decide) rfl (fun A259 c260 => ?_); refine At.run 1 rfl ?_; refine At.nil ?_; refine At.thn ?_; refine At.seq ?_; refine At.seq ?_; refine At.region ?_; refine At.run 1 rfl ?_; refine At.nil ?_; refine At.thn ?_; refine At.block ?_; obtain ⟨G1067, hl1068, hr1069, hrun⟩ := bjoin hrun; obtain ⟨o1070, hlo1071, ho1072⟩ := bsome hrun; clear hrun; unfold bailiffref15_Tops.l0 at hlo1071; obtain ⟨m1073, hit1075⟩ := iter_some.1 hlo1071; clear hlo1071; refine At.loopJ (X := (List Bool) × Int) (Y := (List Bool)) (e0 := 0) (fun s_ => [(0, .slice A0 a0.length c0), (1, .slice A1 a1.length c1), (2, .int .i64 a2), (7, .slice A259 ((List.replicate (a0.length : Int).toNat (false : Bool)).length) c260), (8, .int .i64 s_.2)]) (fun s_ => row Fl.bool 4 A259 ((List.replicate (a0.length : Int).toNat (false : Bool)).length) c260 s_.1 :: Fr) (fun m_ => fun s_ => iterN (fun t_ : (List Bool) × Int => bailiffref15_Tops.l0b a0 a1 a2 t_.1 t_.2) m_ (s_.1, s_.2) = some o1070) m1073 ((List.replicate (a0.length : Int).toNat (false : Bool)), 0) hit1075 (fun x1066 => [(0, .slice A0 a0.length c0), (2, .int .i64 a2), (7, .slice A259 ((List.replicate (a0.length : Int).toNat (false : Bool)).length) c260)]) (fun x1066 => row Fl.bool 4 A259 ((List.replicate (a0.length : Int).toNat (false : Bool)).length) c260 x1066 :: Fr) (fun x1066 => G1067 (.inl x1066) = some r) (fun a w e hs => ⟨e.sub ⟨rfl, rfl, rfl, rfl, rfl, trivial⟩, hs⟩) ?_ (fun J1077 => ?_)
  · rintro x1066 hrun; have hrun := (hl1068 _).symm.trans hrun
    · refine At.ibx ?_; refine At.thn ?_; refine At.seq ?_; refine At.region ?_; refine At.run 3 rfl ?_; refine At.freeze .z fun R1078 hr1079 hn1080 hc1081 hs1082 th1083 => ?_; obtain ⟨t1084, hc1085, hrun⟩ := bbind hrun; refine At.call rfl bailiffref15_Reach.callee rfl rfl rfl (bailiffref15_Reach.spec _ _ A0 a0.length c0 A259 ((List.replicate (a0.length : Int).toNat (false : Bool)).length) c260 a0 a2 x1066 (RdS.mono hs1082 hr0) rfl hc0 hr1079 hn1080 hc1081 hc1085) ?_; rintro _ _ ⟨w1086, w1087, rfl, rfl⟩; refine At.run 1 rfl ?_; refine At.nil ?_; refine At.thn ?_; refine At.seq ?_; refine At.region ?_; refine At.run 2 rfl ?_; obtain ⟨h1089, hrun⟩ := bnone hrun; refine At.y (Y.ix .z rfl rfl rfl rfl rfl rfl h1089.1 h1089.2) rfl rfl rfl ?_; refine At.y (Y.ld .z (q := 0) rfl rfl h1089.1 h1089.2 rfl rfl rfl) rfl rfl rfl ?_; refine At.run 1 rfl ?_; refine At.nil ?_; refine At.thn ?_; refine At.ret ?_; refine At.thaw th1083 ?_; refine At.drop .z ?_; refine At.drop .z ?_; obtain rfl := (bret hrun).symm; exact At.res (.inl rfl) rfl rfl ⟨rfl, rfl⟩
  · clear hit1075 m1073; rintro m1073 ⟨x864, x865⟩ hit1075; obtain ⟨m1074, f_, hlt1076, hf_, hrun⟩ := bit hit1075; clear hit1075; have hrun : (bailiffref15_Tops.l0b a0 a1 a2 x864 x865).bind _ = some o1070 := hrun; unfold bailiffref15_Tops.l0b at hrun
    · refine At.seq ?_; refine At.seq ?_; refine At.region ?_; refine At.run 4 rfl ?_; refine At.nil ?_; refine At.thn ?_; rcases bite hrun with ⟨h1090, hrun⟩ | ⟨h1090, hrun⟩
      · · refine At.condT rfl (decide_eq_true h1090) ?_
          refine At.skip ?_; refine At.thn ?_; refine At.seq ?_; refine At.block ?_; refine At.region ?_; refine At.run 4 rfl ?_; obtain ⟨t1091, hc1092, hrun⟩ := bbind hrun; refine At.call rfl bailiffref15_of.callee rfl rfl rfl (bailiffref15_of.spec _ _ A1 a1.length c1 a1 x865 hr1 rfl hc1 hc1092) ?_; rintro _ _ ⟨rfl, rfl⟩; refine At.run 2 rfl ?_; obtain ⟨t1093, hc1094, hrun⟩ := bbind hrun; refine At.call rfl bailiffref15_of.callee rfl rfl rfl (bailiffref15_of.spec _ _ A1 a1.length c1 a1 a2 hr1 rfl hc1 hc1094) ?_; rintro _ _ ⟨rfl, rfl⟩; refine At.run 1 rfl ?_; obtain ⟨h1095, hrun⟩ := bnone hrun; refine At.y (Y.ix .z rfl rfl rfl rfl rfl rfl h1095.1 h1095.2) rfl rfl rfl ?_; refine At.st rfl .z (q := 0) (z := (decide (t1091 ≤ t1093))) rfl rfl rfl h1095.1 h1095.2 rfl rfl (.c .n) ?_; refine At.nil ?_; refine At.ibn ?_; refine At.thn ?_; refine At.region ?_; refine At.run 3 rfl ?_; refine At.nil ?_; have hrun := bnx hf_ hrun; exact fun a w e hs => ⟨m1074, ((st x864 x865 (decide (t1091 ≤ t1093))), IntKind.i64.wrap (x865 + 1)), hlt1076, hrun, e.sub ⟨rfl, rfl, rfl, rfl, rfl, trivial⟩, hs⟩
      · · refine At.condF rfl (decide_eq_false h1090) ?_
          refine At.exit ?_; refine At.the ?_; refine At.the ?_; exact fun a w e hs => J1077 x864 (bdn hrun ho1072) a w (e.sub ⟨rfl, rfl, rfl, trivial⟩) hs

noncomputable def bailiffref15_Bad.l0b (a0 : List (List Int)) (a1 : List Int) (a2 : Int) (x853 : Int) : Option ((Int) ⊕ ((Unit) ⊕ (Int))) :=
  if x853 < (a0.length : Int) then
    jn (
      (bailiffref15_of.f a1 x853).bind fun t1270 =>
        if band .i64 t1270 1 = band .i64 a2 1 then
          (bailiffref15_Tops.f a0 a1 x853).bind fun t1273 =>
            if t1273 = true then
              up (upL (some x853))
            else
              some (.inl ())
        else
          some (.inl ())) (fun (_ : Unit) =>
      nx (IntKind.i64.wrap (x853 + 1)))
  else
    dn (.inl ())
noncomputable def bailiffref15_Bad.l0 (a0 : List (List Int)) (a1 : List Int) (a2 : Int) (x853 : Int) : Option ((Unit) ⊕ (Int)) := iter (fun t_ : Int => bailiffref15_Bad.l0b a0 a1 a2 t_) x853
noncomputable def bailiffref15_Bad.f (a0 : List (List Int)) (a1 : List Int) (a2 : Int) : Option Int :=
  jn (bailiffref15_Bad.l0 a0 a1 a2 0) (fun (_ : Unit) =>
    some (-1))
theorem bailiffref15_Bad.callee : Callee Go.Proofs.Try.prog 23 := ⟨_, Go.Proofs.Try.func23, by kernel_rfl, by kernel_rfl⟩
set_option maxRecDepth 100000 in
set_option maxHeartbeats 2000000 in
theorem bailiffref15_Bad.spec (R : Res) (Fr : List HProp) (A0 : Option Addr) (n0 : Nat) (c0 : Nat) (A1 : Option Addr) (n1 : Nat) (c1 : Nat) (a0 : List (List Int)) (a1 : List Int) (a2 : Int) (hr0 : RdS ((Fl.int .i64).rep).slice R.heap A0 a0) (hn0 : a0.length = n0) (hc0 : n0 ≤ c0) (hr1 : RdS (Fl.int .i64).rep R.heap A1 a1) (hn1 : a1.length = n1) (hc1 : n1 ≤ c1) {r : Int} (hrun : bailiffref15_Bad.f a0 a1 a2 = some r) :
    Spec Go.Proofs.Try.prog 23 [.slice A0 n0 c0, .slice A1 n1 c1, .int .i64 a2] R (Fr) (fun v l' => v = .int .i64 r ∧ Fr = l') := by
  subst hn0; subst hn1; refine Spec.of Go.Proofs.Try.func23 rfl rfl ?_; unfold bailiffref15_Bad.f at hrun; have hrun := brun hrun; refine At.seq ?_; refine At.region ?_; refine At.run 1 rfl ?_; refine At.nil ?_; refine At.thn ?_; refine At.seq ?_; refine At.seq ?_; refine At.region ?_; refine At.run 1 rfl ?_; refine At.nil ?_; refine At.thn ?_; refine At.block ?_; obtain ⟨G1054, hl1055, hr1056, hrun⟩ := bjoin hrun; obtain ⟨o1057, hlo1058, ho1059⟩ := bsome hrun; clear hrun; unfold bailiffref15_Bad.l0 at hlo1058; obtain ⟨m1060, hit1062⟩ := iter_some.1 hlo1058; clear hlo1058; refine At.loopJ (X := Int) (Y := Unit) (e0 := 0) (fun x853 => [(0, .slice A0 a0.length c0), (1, .slice A1 a1.length c1), (2, .int .i64 a2), (7, .int .i64 x853)]) (fun x853 => Fr) (fun m_ => fun x853 => iterN (fun t_ : Int => bailiffref15_Bad.l0b a0 a1 a2 t_) m_ x853 = some o1057) m1060 0 hit1062 (fun _ => []) (fun _ => Fr) (fun _ => G1054 (.inl ()) = some r) (fun a w e hs => ⟨e.sub ⟨rfl, rfl, rfl, rfl, trivial⟩, hs⟩) ?_ (fun J1064 => ?_)
  · rintro _ hrun; have hrun := (hl1055 _).symm.trans hrun
    · refine At.ibx ?_; refine At.thn ?_; refine At.seq ?_; refine At.region ?_; refine At.run 1 rfl ?_; refine At.nil ?_; refine At.thn ?_; refine At.ret ?_; obtain rfl := (bret hrun).symm; exact At.res (.inl rfl) rfl rfl ⟨rfl, rfl⟩
  · clear hit1062 m1060; rintro m1060 x853 hit1062; obtain ⟨m1061, f_, hlt1063, hf_, hrun⟩ := bit hit1062; clear hit1062; have hrun : (bailiffref15_Bad.l0b a0 a1 a2 x853).bind _ = some o1057 := hrun; unfold bailiffref15_Bad.l0b at hrun
    · refine At.seq ?_; refine At.seq ?_; refine At.region ?_; refine At.run 4 rfl ?_; refine At.nil ?_; refine At.thn ?_; rcases bite hrun with ⟨h1065, hrun⟩ | ⟨h1065, hrun⟩
      · · refine At.condT rfl (decide_eq_true h1065) ?_
          refine At.skip ?_; refine At.thn ?_; refine At.seq ?_; obtain ⟨G1066, hl1067, hr1068, hrun⟩ := bjoin hrun; refine At.join (X := Unit) (fun _ => [(0, .slice A0 a0.length c0), (1, .slice A1 a1.length c1), (2, .int .i64 a2), (7, .int .i64 x853)]) (fun _ => Fr) (fun _ => G1066 (.inl ()) = some o1057) ?_ (fun J1069 => ?_)
          · rintro _ hrun; have hrun := (hl1067 _).symm.trans hrun
            · refine At.region ?_; refine At.run 3 rfl ?_; refine At.nil ?_; have hrun := bnx hf_ hrun; exact fun a w e hs => ⟨m1061, (IntKind.i64.wrap (x853 + 1)), hlt1063, hrun, e.sub ⟨rfl, rfl, rfl, rfl, trivial⟩, hs⟩
          · · refine At.block ?_
              refine At.seq ?_; refine At.region ?_; refine At.run 2 rfl ?_; obtain ⟨t1270, hc1271, hrun⟩ := bbind hrun; refine At.call rfl bailiffref15_of.callee rfl rfl rfl (bailiffref15_of.spec _ _ A1 a1.length c1 a1 x853 hr1 rfl hc1 hc1271) ?_; rintro _ _ ⟨rfl, rfl⟩; refine At.run 4 rfl ?_; refine At.nil ?_; refine At.thn ?_; rcases bite hrun with ⟨h1272, hrun⟩ | ⟨h1272, hrun⟩
              · · refine At.condT rfl (decide_eq_true h1272) ?_
                  refine At.seq ?_; refine At.region ?_; refine At.run 3 rfl ?_; obtain ⟨t1273, hc1274, hrun⟩ := bbind hrun; refine At.call rfl bailiffref15_Tops.callee rfl rfl rfl (bailiffref15_Tops.spec _ _ A0 a0.length c0 A1 a1.length c1 a0 a1 x853 hr0 rfl hc0 hr1 rfl hc1 hc1274) ?_; rintro _ _ ⟨rfl, rfl⟩; refine At.run 1 rfl ?_; refine At.nil ?_; refine At.thn ?_; refine At.seq ?_; refine At.region ?_; refine At.run 1 rfl ?_; refine At.nil ?_; refine At.thn ?_; rcases bite hrun with ⟨h1275, hrun⟩ | ⟨h1275, hrun⟩
                  · · refine At.condT rfl h1275 ?_
                      refine At.seq ?_; refine At.region ?_; refine At.run 2 rfl ?_; refine At.nil ?_; refine At.thn ?_; refine At.ret ?_; refine At.ibr ?_; have hrun := bup hr1068 hrun; refine At.thr ?_; have hrun := bupL hr1056 ho1059 hrun; refine At.thr ?_; refine At.ibr ?_; refine At.thr ?_; obtain rfl := (bret hrun).symm; exact At.res (.inl rfl) rfl rfl ⟨rfl, rfl⟩
                  · · refine At.condF rfl (bn h1275) ?_
                      refine At.skip ?_; refine At.ibn ?_; refine At.thn ?_; exact fun a w e hs => J1069 () hrun a w (e.sub ⟨rfl, rfl, rfl, rfl, trivial⟩) hs
              · · refine At.condF rfl (decide_eq_false h1272) ?_
                  refine At.skip ?_; refine At.ibn ?_; refine At.thn ?_; exact fun a w e hs => J1069 () hrun a w (e.sub ⟨rfl, rfl, rfl, rfl, trivial⟩) hs
      · · refine At.condF rfl (decide_eq_false h1065) ?_
          refine At.exit ?_; refine At.the ?_; refine At.the ?_; exact fun a w e hs => J1064 () (bdn hrun ho1059) a w (e.sub trivial) hs

end Go.Bw
