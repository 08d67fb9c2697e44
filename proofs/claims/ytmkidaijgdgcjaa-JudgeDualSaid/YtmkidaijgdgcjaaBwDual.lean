/- Walks: what the functions of the program compute, told by plain functions, and that the calls come to them. Conditions: none. -/
import Derived.Test.YtmkidaijgdgcjaaBwTyx
import Derived.Test.YtmkidaijgdgcjaaProg
import Derived.Test.YtmkidaijgdgcjaaBwLay
import Derived.Test.YtmkidaijgdgcjaaBwSortI
import Derived.Test.YtmkidaijgdgcjaaBwSortF
import Derived.Deep.QuietTactic
import Derived.Test.YtmkidaijgdgcjaaBwCycA
import Derived.Test.YtmkidaijgdgcjaaBwJud
import Derived.Test.YtmkidaijgdgcjaaBwAgg
set_option linter.unusedVariables false
set_option linter.unusedSimpArgs false
set_option linter.unusedSectionVars false
namespace Go.Bw
open Go Go.RowKit Go.Proofs
noncomputable def game_is.f (a0_0 : List Int) (a0_1 : List Int) (a0_2 : List (List Int)) : Option Bool :=
  (game_Right.f a0_0 a0_1 a0_2).bind fun t254 =>
    some (decide (t254.1 = 0))
theorem game_is.callee : Callee Go.Proofs.Try.prog 53 := ⟨_, Go.Proofs.Try.func53, by kernel_rfl, by kernel_rfl⟩
set_option maxRecDepth 100000 in
set_option maxHeartbeats 2000000 in
theorem game_is.spec (R : Res) (Fr : List HProp) (A0_0 : Option Addr) (n0_0 : Nat) (c0_0 : Nat) (A0_1 : Option Addr) (n0_1 : Nat) (c0_1 : Nat) (A0_2 : Option Addr) (n0_2 : Nat) (c0_2 : Nat) (a0_0 : List Int) (a0_1 : List Int) (a0_2 : List (List Int)) (hr0_0 : RdS (Fl.int .i64).rep R.heap A0_0 a0_0) (hn0_0 : a0_0.length = n0_0) (hc0_0 : n0_0 ≤ c0_0) (hr0_1 : RdS (Fl.int .i64).rep R.heap A0_1 a0_1) (hn0_1 : a0_1.length = n0_1) (hc0_1 : n0_1 ≤ c0_1) (hr0_2 : RdS ((Fl.int .i64).rep).slice R.heap A0_2 a0_2) (hn0_2 : a0_2.length = n0_2) (hc0_2 : n0_2 ≤ c0_2) {r : Bool} (hrun : game_is.f a0_0 a0_1 a0_2 = some r) :
    Spec Go.Proofs.Try.prog 53 [.agg #[.slice A0_0 n0_0 c0_0, .slice A0_1 n0_1 c0_1, .slice A0_2 n0_2 c0_2]] R (Fr) (fun v l' => v = .bool r ∧ Fr = l') := by
  subst hn0_0
  subst hn0_1
  subst hn0_2
  refine Spec.of Go.Proofs.Try.func53 rfl rfl ?_
  unfold game_is.f at hrun
  have hrun := brun hrun
  refine At.seq ?_
  refine At.region ?_
  refine At.box rfl rfl (cs := [.slice A0_0 a0_0.length c0_0, .slice A0_1 a0_1.length c0_1, .slice A0_2 a0_2.length c0_2]) rfl rfl (fun b253 => ?_)
  refine At.run 1 rfl ?_
  refine At.nil ?_
  refine At.thn ?_
  refine At.seq ?_
  refine At.region ?_
  refine At.y (Y.load rfl rfl .z rfl rfl rfl) rfl rfl rfl ?_
  obtain ⟨t254, hc255, hrun⟩ := bbind hrun
  refine At.call rfl game_Right.callee rfl rfl rfl (game_Right.spec _ _ A0_0 a0_0.length c0_0 A0_1 a0_1.length c0_1 A0_2 a0_2.length c0_2 a0_0 a0_1 a0_2 hr0_0 rfl hc0_0 hr0_1 rfl hc0_1 hr0_2 rfl hc0_2 hc255) ?_
  rintro _ _ ⟨rfl, rfl⟩
  refine At.run 5 rfl ?_
  refine At.nil ?_
  refine At.thn ?_
  refine At.seq ?_
  refine At.region ?_
  refine At.run 3 rfl ?_
  refine At.nil ?_
  refine At.thn ?_
  refine At.ret ?_
  refine At.drop .z ?_
  obtain rfl := (bret hrun).symm
  exact At.res (.inl rfl) rfl rfl ⟨rfl, rfl⟩

noncomputable def game_Copy.l0b (a0_2 : List (List Int)) (x1094 : List (List Int)) (x1099 : Int) : Option (((List (List Int)) × Int) ⊕ (((List (List Int))) ⊕ ((List (List Int)) × (List Int) × (List Int)))) :=
  if x1099 < (a0_2.length : Int) then
    if (0 : Int) ≤ x1099 ∧ x1099 < (a0_2.length : Int) then
      (slices_Clone_int_int.f (gt a0_2 x1099)).bind fun t1323 =>
        if (x1094.length + 1) * 24 ≤ 140737488355328 then
          nx ((x1094 ++ [t1323]), IntKind.i64.wrap (x1099 + 1))
        else none
    else none
  else
    dn (.inl x1094)
noncomputable def game_Copy.l0 (a0_2 : List (List Int)) (x1094 : List (List Int)) (x1099 : Int) : Option (((List (List Int))) ⊕ ((List (List Int)) × (List Int) × (List Int))) := iter (fun t_ : (List (List Int)) × Int => game_Copy.l0b a0_2 t_.1 t_.2) (x1094, x1099)
noncomputable def game_Copy.f (a0_0 : List Int) (a0_1 : List Int) (a0_2 : List (List Int)) : Option ((List (List Int)) × (List Int) × (List Int)) :=
  (slices_Clone_int_int.f a0_0).bind fun t271 =>
    (slices_Clone_int_int.f a0_1).bind fun t273 =>
      jn (game_Copy.l0 a0_2 ([] : List (List Int)) 0) (fun (x1300 : List (List Int)) =>
    some (x1300, t273, t271))
theorem game_Copy.callee : Callee Go.Proofs.Try.prog 54 := ⟨_, Go.Proofs.Try.func54, by kernel_rfl, by kernel_rfl⟩
set_option maxRecDepth 100000 in
set_option maxHeartbeats 2000000 in
theorem game_Copy.spec (R : Res) (Fr : List HProp) (A0_0 : Option Addr) (n0_0 : Nat) (c0_0 : Nat) (A0_1 : Option Addr) (n0_1 : Nat) (c0_1 : Nat) (A0_2 : Option Addr) (n0_2 : Nat) (c0_2 : Nat) (a0_0 : List Int) (a0_1 : List Int) (a0_2 : List (List Int)) (hr0_0 : RdS (Fl.int .i64).rep R.heap A0_0 a0_0) (hn0_0 : a0_0.length = n0_0) (hc0_0 : n0_0 ≤ c0_0) (hr0_1 : RdS (Fl.int .i64).rep R.heap A0_1 a0_1) (hn0_1 : a0_1.length = n0_1) (hc0_1 : n0_1 ≤ c0_1) (hr0_2 : RdS ((Fl.int .i64).rep).slice R.heap A0_2 a0_2) (hn0_2 : a0_2.length = n0_2) (hc0_2 : n0_2 ≤ c0_2) {r : (List (List Int)) × (List Int) × (List Int)} (hrun : game_Copy.f a0_0 a0_1 a0_2 = some r) :
    Spec Go.Proofs.Try.prog 54 [.agg #[.slice A0_0 n0_0 c0_0, .slice A0_1 n0_1 c0_1, .slice A0_2 n0_2 c0_2]] R (Fr) (fun v l' => ∃ (w253 : Nat) (w255 : Option Addr) (w256 : Nat) (w259 : Nat) (w261 : Option Addr) (w262 : Nat) (w264 : Nat) (w266 : Option Addr) (w267 : Nat), v = .agg #[.slice w266 w264 w267, .slice w261 w259 w262, .slice w255 w253 w256] ∧ row (Fl.int .i64) 3 w266 w264 w267 r.2.2 :: row (Fl.int .i64) 3 w261 w259 w262 r.2.1 :: rows (Fl.int .i64) 3 26 w255 w253 w256 r.1 :: Fr = l' ∧ r.1.length = w253 ∧ r.2.1.length = w259 ∧ r.2.2.length = w264) := by
  subst hn0_0
  subst hn0_1
  subst hn0_2
  refine Spec.of Go.Proofs.Try.func54 rfl rfl ?_
  unfold game_Copy.f at hrun
  have hrun := brun hrun
  refine At.seq ?_
  refine At.region ?_
  refine At.box rfl rfl (cs := [.slice A0_0 a0_0.length c0_0, .slice A0_1 a0_1.length c0_1, .slice A0_2 a0_2.length c0_2]) rfl rfl (fun b269 => ?_)
  refine At.alloc rfl rfl rfl (fun b270 => ?_)
  refine At.nil ?_
  refine At.thn ?_
  refine At.seq ?_
  refine At.held [pt b270 (.cells [.slice none 0 0, .slice none 0 0, .slice none 0 0].toArray 36), pt b269 (.cells [.slice A0_0 a0_0.length c0_0, .slice A0_1 a0_1.length c0_1, .slice A0_2 a0_2.length c0_2].toArray 36)] 9 rfl ?_
  refine At.H.pv 0 rfl (by kernel_rfl) (by kernel_rfl) (by kernel_rfl) rfl rfl rfl rfl (.c .z (.c .z .n)) ?_
  refine At.H.take 1 rfl (by kernel_rfl) (by kernel_rfl) (by kernel_rfl) (Y.load rfl rfl (.s .z) rfl rfl rfl) rfl rfl rfl (.c .z (.c .z .n)) ?_
  refine At.H.pv 3 rfl (by kernel_rfl) (by kernel_rfl) (by kernel_rfl) rfl rfl rfl rfl (.c .z (.c .z .n)) ?_
  refine At.H.take 4 rfl (by kernel_rfl) (by kernel_rfl) (by kernel_rfl) (Y.load rfl rfl (.s .z) rfl rfl rfl) rfl rfl rfl (.c .z (.c .z .n)) ?_
  obtain ⟨t271, hc272, hrun⟩ := bbind hrun
  obtain ⟨t273, hc274, hrun⟩ := bbind hrun
  refine At.H.joinK (X := Nat × (Option Addr) × Nat × (Option Addr) × Nat) (fun s_ => [(1, .pointer (some ⟨b269, 0, none⟩)), (2, .pointer (some ⟨b270, 0, none⟩)), (3, .pointer (some ⟨s_.1, 0, none⟩))]) (fun s_ => pt s_.1 (.cells [.slice s_.2.2.2.1 t271.length s_.2.2.2.2, .slice s_.2.1 t273.length s_.2.2.1, .slice none 0 0].toArray 36) :: row (Fl.int .i64) 3 s_.2.1 t273.length s_.2.2.1 t273 :: row (Fl.int .i64) 3 s_.2.2.2.1 t271.length s_.2.2.2.2 t271 :: pt b270 (.cells [.slice none 0 0, .slice none 0 0, .slice none 0 0].toArray 36) :: pt b269 (.cells [.slice A0_0 a0_0.length c0_0, .slice A0_1 a0_1.length c0_1, .slice A0_2 a0_2.length c0_2].toArray 36) :: Fr) (fun s_ => True) ?_ (fun J480 => ?_)
  · rintro ⟨w475, w476, w477, w478, w479⟩ -
    · refine At.thn ?_
      refine At.seq ?_
      refine At.seq ?_
      refine At.region ?_
      refine At.run 1 rfl ?_
      refine At.y (Y.load rfl rfl (.s (.s (.s (.s .z)))) rfl rfl rfl) rfl rfl rfl ?_
      refine At.run 2 rfl ?_
      refine At.nil ?_
      refine At.thn ?_
      refine At.block ?_
      obtain ⟨G1305, hl1306, hr1307, hrun⟩ := bjoin hrun
      obtain ⟨o1308, hlo1309, ho1310⟩ := bsome hrun
      clear hrun
      unfold game_Copy.l0 at hlo1309
      obtain ⟨m1311, hit1313⟩ := iter_some.1 hlo1309
      clear hlo1309
      refine At.nilRows (Fl.int .i64) 3 26 ?_
      refine At.loopJ (X := (List (List Int)) × Int × Nat × (Option Addr) × Nat) (Y := (List (List Int)) × Nat × (Option Addr) × Nat) (e0 := 0) (fun s_ => [(2, .pointer (some ⟨b270, 0, none⟩)), (3, .pointer (some ⟨w475, 0, none⟩)), (14, .slice A0_2 a0_2.length c0_2), (15, .int .i64 (a0_2.length : Int)), (16, .int .i64 s_.2.1)]) (fun s_ => rows (Fl.int .i64) 3 26 s_.2.2.2.1 s_.2.2.1 s_.2.2.2.2 s_.1 :: pt w475 (.cells [.slice w478 t271.length w479, .slice w476 t273.length w477, .slice s_.2.2.2.1 s_.2.2.1 s_.2.2.2.2].toArray 36) :: row (Fl.int .i64) 3 w476 t273.length w477 t273 :: row (Fl.int .i64) 3 w478 t271.length w479 t271 :: pt b270 (.cells [.slice none 0 0, .slice none 0 0, .slice none 0 0].toArray 36) :: pt b269 (.cells [.slice A0_0 a0_0.length c0_0, .slice A0_1 a0_1.length c0_1, .slice A0_2 a0_2.length c0_2].toArray 36) :: Fr) (fun m_ => fun s_ => iterN (fun t_ : (List (List Int)) × Int => game_Copy.l0b a0_2 t_.1 t_.2) m_ (s_.1, s_.2.1) = some o1308 ∧ s_.1.length = s_.2.2.1) m1311 (([] : List (List Int)), 0, 0, none, 0) ⟨hit1313, rfl⟩ (fun s_ => [(2, .pointer (some ⟨b270, 0, none⟩)), (3, .pointer (some ⟨w475, 0, none⟩))]) (fun s_ => rows (Fl.int .i64) 3 26 s_.2.2.1 s_.2.1 s_.2.2.2 s_.1 :: pt w475 (.cells [.slice w478 t271.length w479, .slice w476 t273.length w477, .slice s_.2.2.1 s_.2.1 s_.2.2.2].toArray 36) :: row (Fl.int .i64) 3 w476 t273.length w477 t273 :: row (Fl.int .i64) 3 w478 t271.length w479 t271 :: pt b270 (.cells [.slice none 0 0, .slice none 0 0, .slice none 0 0].toArray 36) :: pt b269 (.cells [.slice A0_0 a0_0.length c0_0, .slice A0_1 a0_1.length c0_1, .slice A0_2 a0_2.length c0_2].toArray 36) :: Fr) (fun s_ => G1305 (.inl s_.1) = some r ∧ s_.1.length = s_.2.1) (fun a w e hs => ⟨e.sub ⟨rfl, rfl, rfl, rfl, rfl, trivial⟩, hs⟩) ?_ (fun J1315 => ?_)
      · rintro ⟨x1300, w1301, w1303, w1304⟩ ⟨hrun, hn1302⟩
        obtain rfl : x1300.length = w1301 := hn1302
        have hrun := (hl1306 _).symm.trans hrun
        · refine At.ibx ?_
          refine At.thn ?_
          refine At.seq ?_
          refine At.region ?_
          refine At.y (Y.load rfl rfl (.s .z) rfl rfl rfl) rfl rfl rfl ?_
          refine At.store rfl rfl rfl rfl (.s (.s (.s (.s .z)))) rfl rfl rfl (.c (.c (.c .n))) ?_
          refine At.nil ?_
          refine At.thn ?_
          refine At.ret ?_
          refine At.resM (.inl rfl) rfl (RV.cell rfl rfl .z rfl rfl rfl RV.nil) ?_
          refine At.drop .z ?_
          refine At.drop (.s .z) ?_
          refine At.drop (.s (.s (.s .z))) ?_
          refine At.frt (.s .z) ?_
          refine At.frt (.s (.s .z)) ?_
          obtain rfl := (bret hrun).symm
          exact fun a w e hs => ⟨_, ⟨x1300.length, w1303, w1304, t273.length, w476, w477, t271.length, w478, w479, rfl, rfl, rfl, rfl, rfl⟩, hs⟩
      · clear hit1313 m1311
        rintro m1311 ⟨x1094, x1099, w1095, w1097, w1098⟩ ⟨hit1313, hn1096⟩
        obtain rfl : x1094.length = w1095 := hn1096
        obtain ⟨m1312, f_, hlt1314, hf_, hrun⟩ := bit hit1313
        clear hit1313
        have hrun : (game_Copy.l0b a0_2 x1094 x1099).bind _ = some o1308 := hrun
        unfold game_Copy.l0b at hrun
        · refine At.seq ?_
          refine At.region ?_
          refine At.run 1 rfl ?_
          refine At.nil ?_
          refine At.thn ?_
          refine At.seq ?_
          rcases bite hrun with ⟨h1316, hrun⟩ | ⟨h1316, hrun⟩
          · · refine At.condT rfl (decide_eq_true h1316) ?_
              refine At.skip ?_
              refine At.thn ?_
              refine At.seq ?_
              refine At.block ?_
              refine At.seq ?_
              refine At.region ?_
              obtain ⟨h1317, hrun⟩ := bnone hrun
              refine At.y (Y.ixRd hr0_2 rfl rfl rfl rfl rfl rfl rfl h1317.1 h1317.2) rfl rfl rfl ?_
              obtain ⟨A1318, c1319, hc1320, hr1321, hy1322⟩ := RdS.rowAt (P := Go.Proofs.Try.prog) hr0_2 (Sub.refl _) rfl h1317.1 h1317.2
              refine At.y (hy1322 rfl rfl rfl rfl) rfl rfl rfl ?_
              refine At.run 1 rfl ?_
              refine At.nil ?_
              refine At.thn ?_
              refine At.held [row (Fl.int .i64) 3 w476 t273.length w477 t273, row (Fl.int .i64) 3 w478 t271.length w479 t271, pt b270 (.cells [.slice none 0 0, .slice none 0 0, .slice none 0 0].toArray 36), pt b269 (.cells [.slice A0_0 a0_0.length c0_0, .slice A0_1 a0_1.length c0_1, .slice A0_2 a0_2.length c0_2].toArray 36)] 8 rfl ?_
              refine At.H.pv 0 rfl (by kernel_rfl) (by kernel_rfl) (by kernel_rfl) rfl rfl rfl rfl (.c (.s (.s .z)) (.c (.s (.s .z)) (.c (.s (.s .z)) (.c (.s (.s .z)) .n)))) ?_
              refine At.H.pv 2 rfl (by kernel_rfl) (by kernel_rfl) (by kernel_rfl) rfl rfl rfl rfl (.c (.s (.s .z)) (.c (.s (.s .z)) (.c (.s (.s .z)) (.c (.s (.s .z)) .n)))) ?_
              obtain ⟨t1323, hc1324, hrun⟩ := bbind hrun
              obtain ⟨h1528, hrun⟩ := bnone hrun
              refine At.H.joinK (X := (Option Addr) × Nat) (fun s_ => [(2, .pointer (some ⟨b270, 0, none⟩)), (3, .pointer (some ⟨w475, 0, none⟩)), (14, .slice A0_2 a0_2.length c0_2), (15, .int .i64 (a0_2.length : Int)), (16, .int .i64 x1099)]) (fun s_ => pt w475 (.cells [.slice w478 t271.length w479, .slice w476 t273.length w477, .slice s_.1 ((x1094 ++ [t1323]).length) s_.2].toArray 36) :: rows (Fl.int .i64) 3 26 s_.1 ((x1094 ++ [t1323]).length) s_.2 (x1094 ++ [t1323]) :: row (Fl.int .i64) 3 w476 t273.length w477 t273 :: row (Fl.int .i64) 3 w478 t271.length w479 t271 :: pt b270 (.cells [.slice none 0 0, .slice none 0 0, .slice none 0 0].toArray 36) :: pt b269 (.cells [.slice A0_0 a0_0.length c0_0, .slice A0_1 a0_1.length c0_1, .slice A0_2 a0_2.length c0_2].toArray 36) :: Fr) (fun s_ => True) ?_ (fun J1527 => ?_)
              · rintro ⟨w1525, w1526⟩ -
                · refine At.ibn ?_
                  refine At.thn ?_
                  refine At.region ?_
                  refine At.run 2 rfl ?_
                  refine At.nil ?_
                  refine At.frt (.s (.s (.s (.s (.s .z))))) ?_
                  refine At.frt (.s (.s (.s (.s (.s .z))))) ?_
                  refine At.frt (.s (.s (.s (.s (.s .z))))) ?_
                  refine At.frt (.s (.s (.s (.s (.s .z))))) ?_
                  refine At.frt (.s (.s (.s (.s .z)))) ?_
                  refine At.frt (.s (.s (.s (.s (.s .z))))) ?_
                  have hrun := bnx hf_ hrun
                  exact fun a w e hs => ⟨m1312, ((x1094 ++ [t1323]), IntKind.i64.wrap (x1099 + 1), (x1094 ++ [t1323]).length, w1525, w1526), hlt1314, ⟨hrun, rfl⟩, e.sub ⟨rfl, rfl, rfl, rfl, rfl, trivial⟩, hs⟩
              · refine At.H.all [1, 3] (by kernel_rfl) rfl (all_cons ?_ (all_cons ?_ all_nil))
                · · refine At.HO.op rfl ?_
                    refine At.y (Y.load rfl rfl (.s .z) rfl rfl rfl) rfl rfl rfl ?_
                    refine At.HO.back (.c (.s (.s .z)) (.c (.s (.s .z)) (.c (.s (.s .z)) (.c (.s (.s .z)) .n)))) ?_
                    refine At.H.all [3] (by kernel_rfl) rfl (all_cons ?_ all_nil)
                    · · refine At.HO.op rfl ?_
                        refine At.call rfl slices_Clone_int_int.callee rfl rfl rfl (slices_Clone_int_int.spec _ _ A1318 ((gt a0_2 x1099).length) c1319 (gt a0_2 x1099) hr1321 rfl hc1320 hc1324) ?_
                        rintro _ _ ⟨w1529, w1530, rfl, rfl⟩
                        refine At.HO.back (.c (.s (.s (.s .z))) (.c (.s (.s (.s .z))) (.c (.s (.s (.s .z))) (.c (.s (.s (.s .z))) .n)))) ?_
                        refine At.H.all [4] (by kernel_rfl) rfl (all_cons ?_ all_nil)
                        · · refine At.HO.op rfl ?_
                            refine At.litV rfl (xo := [.tmp 23]) (vs := [.slice w1529 t1323.length w1530]) rfl rfl rfl rfl rfl rfl rfl rfl rfl rfl rfl (fun A1532 c1533 => ?_)
                            refine At.HO.back (.c (.s (.s (.s (.s .z)))) (.c (.s (.s (.s (.s .z)))) (.c (.s (.s (.s (.s .z)))) (.c (.s (.s (.s (.s .z)))) .n)))) ?_
                            refine At.H.all [5] (by kernel_rfl) rfl (all_cons ?_ all_nil)
                            · · refine At.HO.op rfl ?_
                                refine At.appendRow rfl (.s (.s .z)) .z .z rfl rfl rfl rfl rfl rfl rfl rfl h1528 (by decide) rfl (fun A1535 c1536 => ?_)
                                refine At.HO.back (.c (.s (.s .z)) (.c (.s (.s .z)) (.c (.s (.s .z)) (.c (.s (.s .z)) .n)))) ?_
                                refine At.H.pv 6 rfl (by kernel_rfl) (by kernel_rfl) (by kernel_rfl) rfl rfl rfl rfl (.c (.s (.s .z)) (.c (.s (.s .z)) (.c (.s (.s .z)) (.c (.s (.s .z)) .n)))) ?_
                                refine At.H.all [7] (by kernel_rfl) rfl (all_cons ?_ all_nil)
                                · · refine At.HO.op rfl ?_
                                    refine At.store rfl rfl rfl rfl (.s .z) rfl rfl rfl (.s (.s (.c .n))) ?_
                                    refine At.HO.back (.c (.s (.s .z)) (.c (.s (.s .z)) (.c (.s (.s .z)) (.c (.s (.s .z)) .n)))) ?_
                                    refine At.H.done (by kernel_rfl) ?_
                                    exact At.of (J1527 (A1535, c1536) trivial) ⟨rfl, rfl, rfl, rfl, rfl, trivial⟩
                · · refine At.HO.op rfl ?_
                    refine At.call rfl slices_Clone_int_int.callee rfl rfl rfl (slices_Clone_int_int.spec _ _ A1318 ((gt a0_2 x1099).length) c1319 (gt a0_2 x1099) hr1321 rfl hc1320 hc1324) ?_
                    rintro _ _ ⟨w1537, w1538, rfl, rfl⟩
                    refine At.HO.back (.c (.s (.s (.s .z))) (.c (.s (.s (.s .z))) (.c (.s (.s (.s .z))) (.c (.s (.s (.s .z))) .n)))) ?_
                    refine At.H.all [1, 4] (by kernel_rfl) rfl (all_cons ?_ (all_cons ?_ all_nil))
                    · · refine At.HO.op rfl ?_
                        refine At.y (Y.load rfl rfl (.s (.s .z)) rfl rfl rfl) rfl rfl rfl ?_
                        refine At.HO.back (.c (.s (.s (.s .z))) (.c (.s (.s (.s .z))) (.c (.s (.s (.s .z))) (.c (.s (.s (.s .z))) .n)))) ?_
                        refine At.H.all [4] (by kernel_rfl) rfl (all_cons ?_ all_nil)
                        · · refine At.HO.op rfl ?_
                            refine At.litV rfl (xo := [.tmp 23]) (vs := [.slice w1537 t1323.length w1538]) rfl rfl rfl rfl rfl rfl rfl rfl rfl rfl rfl (fun A1540 c1541 => ?_)
                            refine At.HO.back (.c (.s (.s (.s (.s .z)))) (.c (.s (.s (.s (.s .z)))) (.c (.s (.s (.s (.s .z)))) (.c (.s (.s (.s (.s .z)))) .n)))) ?_
                            refine At.H.all [5] (by kernel_rfl) rfl (all_cons ?_ all_nil)
                            · · refine At.HO.op rfl ?_
                                refine At.appendRow rfl (.s (.s .z)) .z .z rfl rfl rfl rfl rfl rfl rfl rfl h1528 (by decide) rfl (fun A1543 c1544 => ?_)
                                refine At.HO.back (.c (.s (.s .z)) (.c (.s (.s .z)) (.c (.s (.s .z)) (.c (.s (.s .z)) .n)))) ?_
                                refine At.H.pv 6 rfl (by kernel_rfl) (by kernel_rfl) (by kernel_rfl) rfl rfl rfl rfl (.c (.s (.s .z)) (.c (.s (.s .z)) (.c (.s (.s .z)) (.c (.s (.s .z)) .n)))) ?_
                                refine At.H.all [7] (by kernel_rfl) rfl (all_cons ?_ all_nil)
                                · · refine At.HO.op rfl ?_
                                    refine At.store rfl rfl rfl rfl (.s .z) rfl rfl rfl (.s (.s (.c .n))) ?_
                                    refine At.HO.back (.c (.s (.s .z)) (.c (.s (.s .z)) (.c (.s (.s .z)) (.c (.s (.s .z)) .n)))) ?_
                                    refine At.H.done (by kernel_rfl) ?_
                                    exact At.of (J1527 (A1543, c1544) trivial) ⟨rfl, rfl, rfl, rfl, rfl, trivial⟩
                    · · refine At.HO.op rfl ?_
                        refine At.litV rfl (xo := [.tmp 23]) (vs := [.slice w1537 t1323.length w1538]) rfl rfl rfl rfl rfl rfl rfl rfl rfl rfl rfl (fun A1545 c1546 => ?_)
                        refine At.HO.back (.c (.s (.s (.s (.s .z)))) (.c (.s (.s (.s (.s .z)))) (.c (.s (.s (.s (.s .z)))) (.c (.s (.s (.s (.s .z)))) .n)))) ?_
                        refine At.H.all [1] (by kernel_rfl) rfl (all_cons ?_ all_nil)
                        · · refine At.HO.op rfl ?_
                            refine At.y (Y.load rfl rfl (.s (.s (.s .z))) rfl rfl rfl) rfl rfl rfl ?_
                            refine At.HO.back (.c (.s (.s (.s (.s .z)))) (.c (.s (.s (.s (.s .z)))) (.c (.s (.s (.s (.s .z)))) (.c (.s (.s (.s (.s .z)))) .n)))) ?_
                            refine At.H.all [5] (by kernel_rfl) rfl (all_cons ?_ all_nil)
                            · · refine At.HO.op rfl ?_
                                refine At.appendRow rfl (.s (.s .z)) .z .z rfl rfl rfl rfl rfl rfl rfl rfl h1528 (by decide) rfl (fun A1548 c1549 => ?_)
                                refine At.HO.back (.c (.s (.s .z)) (.c (.s (.s .z)) (.c (.s (.s .z)) (.c (.s (.s .z)) .n)))) ?_
                                refine At.H.pv 6 rfl (by kernel_rfl) (by kernel_rfl) (by kernel_rfl) rfl rfl rfl rfl (.c (.s (.s .z)) (.c (.s (.s .z)) (.c (.s (.s .z)) (.c (.s (.s .z)) .n)))) ?_
                                refine At.H.all [7] (by kernel_rfl) rfl (all_cons ?_ all_nil)
                                · · refine At.HO.op rfl ?_
                                    refine At.store rfl rfl rfl rfl (.s .z) rfl rfl rfl (.s (.s (.c .n))) ?_
                                    refine At.HO.back (.c (.s (.s .z)) (.c (.s (.s .z)) (.c (.s (.s .z)) (.c (.s (.s .z)) .n)))) ?_
                                    refine At.H.done (by kernel_rfl) ?_
                                    exact At.of (J1527 (A1548, c1549) trivial) ⟨rfl, rfl, rfl, rfl, rfl, trivial⟩
          · · refine At.condF rfl (decide_eq_false h1316) ?_
              refine At.exit ?_
              refine At.the ?_
              refine At.the ?_
              exact fun a w e hs => J1315 (x1094, x1094.length, w1097, w1098) ⟨(bdn hrun ho1310), rfl⟩ a w (e.sub ⟨rfl, rfl, trivial⟩) hs
  · refine At.H.all [2, 7] (by kernel_rfl) rfl (all_cons ?_ (all_cons ?_ all_nil))
    · · refine At.HO.op rfl ?_
        refine At.call rfl slices_Clone_int_int.callee rfl rfl rfl (slices_Clone_int_int.spec _ _ A0_0 a0_0.length c0_0 a0_0 hr0_0 rfl hc0_0 hc272) ?_
        rintro _ _ ⟨w481, w482, rfl, rfl⟩
        refine At.HO.back (.c (.s .z) (.c (.s .z) .n)) ?_
        refine At.H.all [5, 7] (by kernel_rfl) rfl (all_cons ?_ (all_cons ?_ all_nil))
        · · refine At.HO.op rfl ?_
            refine At.call rfl slices_Clone_int_int.callee rfl rfl rfl (slices_Clone_int_int.spec _ _ A0_1 a0_1.length c0_1 a0_1 hr0_1 rfl hc0_1 hc274) ?_
            rintro _ _ ⟨w484, w485, rfl, rfl⟩
            refine At.HO.back (.c (.s (.s .z)) (.c (.s (.s .z)) .n)) ?_
            refine At.H.take 6 rfl (by kernel_rfl) (by kernel_rfl) (by kernel_rfl) (Y.build (is := [0, 1]) (xo := [.tmp 8, .tmp 11]) (vs := [.slice w481 t271.length w482, .slice w484 t273.length w485]) (cs := [.slice w481 t271.length w482, .slice w484 t273.length w485, .slice none 0 0]) rfl rfl rfl rfl rfl rfl) rfl rfl rfl (.c (.s (.s .z)) (.c (.s (.s .z)) .n)) ?_
            refine At.H.all [7] (by kernel_rfl) rfl (all_cons ?_ all_nil)
            · · refine At.HO.op rfl ?_
                refine At.alloc rfl rfl rfl (fun b487 => ?_)
                refine At.HO.back (.c (.s (.s (.s .z))) (.c (.s (.s (.s .z))) .n)) ?_
                refine At.H.all [8] (by kernel_rfl) rfl (all_cons ?_ all_nil)
                · · refine At.HO.op rfl ?_
                    refine At.store rfl rfl rfl rfl .z rfl rfl rfl (.c (.c (.c .n))) ?_
                    refine At.HO.back (.c (.s (.s (.s .z))) (.c (.s (.s (.s .z))) .n)) ?_
                    refine At.H.done (by kernel_rfl) ?_
                    exact At.of (J480 (b487, w484, w485, w481, w482) trivial) ⟨rfl, rfl, rfl, trivial⟩
        · · refine At.HO.op rfl ?_
            refine At.alloc rfl rfl rfl (fun b1550 => ?_)
            refine At.HO.back (.c (.s (.s .z)) (.c (.s (.s .z)) .n)) ?_
            refine At.H.all [5] (by kernel_rfl) rfl (all_cons ?_ all_nil)
            · · refine At.HO.op rfl ?_
                refine At.call rfl slices_Clone_int_int.callee rfl rfl rfl (slices_Clone_int_int.spec _ _ A0_1 a0_1.length c0_1 a0_1 hr0_1 rfl hc0_1 hc274) ?_
                rintro _ _ ⟨w1551, w1552, rfl, rfl⟩
                refine At.HO.back (.c (.s (.s (.s .z))) (.c (.s (.s (.s .z))) .n)) ?_
                refine At.H.take 6 rfl (by kernel_rfl) (by kernel_rfl) (by kernel_rfl) (Y.build (is := [0, 1]) (xo := [.tmp 8, .tmp 11]) (vs := [.slice w481 t271.length w482, .slice w1551 t273.length w1552]) (cs := [.slice w481 t271.length w482, .slice w1551 t273.length w1552, .slice none 0 0]) rfl rfl rfl rfl rfl rfl) rfl rfl rfl (.c (.s (.s (.s .z))) (.c (.s (.s (.s .z))) .n)) ?_
                refine At.H.all [8] (by kernel_rfl) rfl (all_cons ?_ all_nil)
                · · refine At.HO.op rfl ?_
                    refine At.store rfl rfl rfl rfl (.s .z) rfl rfl rfl (.c (.c (.c .n))) ?_
                    refine At.HO.back (.c (.s (.s (.s .z))) (.c (.s (.s (.s .z))) .n)) ?_
                    refine At.H.done (by kernel_rfl) ?_
                    exact At.of (J480 (b1550, w1551, w1552, w481, w482) trivial) ⟨rfl, rfl, rfl, trivial⟩
    · · refine At.HO.op rfl ?_
        refine At.alloc rfl rfl rfl (fun b1554 => ?_)
        refine At.HO.back (.c (.s .z) (.c (.s .z) .n)) ?_
        refine At.H.all [2] (by kernel_rfl) rfl (all_cons ?_ all_nil)
        · · refine At.HO.op rfl ?_
            refine At.call rfl slices_Clone_int_int.callee rfl rfl rfl (slices_Clone_int_int.spec _ _ A0_0 a0_0.length c0_0 a0_0 hr0_0 rfl hc0_0 hc272) ?_
            rintro _ _ ⟨w1555, w1556, rfl, rfl⟩
            refine At.HO.back (.c (.s (.s .z)) (.c (.s (.s .z)) .n)) ?_
            refine At.H.all [5] (by kernel_rfl) rfl (all_cons ?_ all_nil)
            · · refine At.HO.op rfl ?_
                refine At.call rfl slices_Clone_int_int.callee rfl rfl rfl (slices_Clone_int_int.spec _ _ A0_1 a0_1.length c0_1 a0_1 hr0_1 rfl hc0_1 hc274) ?_
                rintro _ _ ⟨w1558, w1559, rfl, rfl⟩
                refine At.HO.back (.c (.s (.s (.s .z))) (.c (.s (.s (.s .z))) .n)) ?_
                refine At.H.take 6 rfl (by kernel_rfl) (by kernel_rfl) (by kernel_rfl) (Y.build (is := [0, 1]) (xo := [.tmp 8, .tmp 11]) (vs := [.slice w1555 t271.length w1556, .slice w1558 t273.length w1559]) (cs := [.slice w1555 t271.length w1556, .slice w1558 t273.length w1559, .slice none 0 0]) rfl rfl rfl rfl rfl rfl) rfl rfl rfl (.c (.s (.s (.s .z))) (.c (.s (.s (.s .z))) .n)) ?_
                refine At.H.all [8] (by kernel_rfl) rfl (all_cons ?_ all_nil)
                · · refine At.HO.op rfl ?_
                    refine At.store rfl rfl rfl rfl (.s (.s .z)) rfl rfl rfl (.c (.c (.c .n))) ?_
                    refine At.HO.back (.c (.s (.s (.s .z))) (.c (.s (.s (.s .z))) .n)) ?_
                    refine At.H.done (by kernel_rfl) ?_
                    exact At.of (J480 (b1554, w1558, w1559, w1555, w1556) trivial) ⟨rfl, rfl, rfl, trivial⟩

noncomputable def game_Dual.l0b (t273 : Bool) (t483 : (List (List Int)) × (List Int) × (List Int)) (x1104 : List Int) (x1105 : List Int) (x1106 : Int) : Option (((List Int) × (List Int) × Int) ⊕ (((List Int) × (List Int)) ⊕ ((List (List Int)) × (List Int) × (List Int)))) :=
  if x1106 < (t483.2.2.length : Int) then
    jn (
      if (0 : Int) ≤ x1106 ∧ x1106 < (t483.2.2.length : Int) then
        if t273 = true then
          if (0 : Int) ≤ x1106 ∧ x1106 < (t483.2.1.length : Int) then
            some (.inl (st x1105 x1106 (IntKind.i64.wrap (gt x1105 x1106 - 1))))
          else none
        else
          if (0 : Int) ≤ x1106 ∧ x1106 < (t483.2.1.length : Int) then
            some (.inl (st x1105 x1106 (IntKind.i64.wrap (gt x1105 x1106 + 1))))
          else none
      else none) (fun (x1527 : List Int) =>
      nx ((st x1104 x1106 (bxor .i64 (gt x1104 x1106) 1)), x1527, IntKind.i64.wrap (x1106 + 1)))
  else
    dn (.inl (x1104, x1105))
noncomputable def game_Dual.l0 (t273 : Bool) (t483 : (List (List Int)) × (List Int) × (List Int)) (x1104 : List Int) (x1105 : List Int) (x1106 : Int) : Option (((List Int) × (List Int)) ⊕ ((List (List Int)) × (List Int) × (List Int))) := iter (fun t_ : (List Int) × (List Int) × Int => game_Dual.l0b t273 t483 t_.1 t_.2.1 t_.2.2) (x1104, x1105, x1106)
noncomputable def game_Dual.f (a0_0 : List Int) (a0_1 : List Int) (a0_2 : List (List Int)) : Option ((List (List Int)) × (List Int) × (List Int)) :=
  (slices_Contains_int_int.f a0_1 7).bind fun t273 =>
    (game_is.f a0_0 a0_1 a0_2).bind fun t275 =>
      jn (
        if t275 = true then
          jn (
            if t273 = true then
              (slices_Contains_int_int.f a0_1 0).bind fun t1739 =>
                some (.inl t1739)
            else
              some (.inl false)) (fun (x1733 : Bool) =>
            some (.inl x1733))
        else
          some (.inl true)) (fun (x477 : Bool) =>
        if x477 = true then
          some (([] : List (List Int)), ([] : List Int), ([] : List Int))
        else
          (game_Copy.f a0_0 a0_1 a0_2).bind fun t483 =>
            jn (game_Dual.l0 t273 t483 t483.2.2 t483.2.1 0) (fun (s_ : (List Int) × (List Int)) =>
              some (t483.1, s_.2, s_.1)))
theorem game_Dual.callee : Callee Go.Proofs.Try.prog 34 := ⟨_, Go.Proofs.Try.func34, by kernel_rfl, by kernel_rfl⟩
set_option maxRecDepth 100000 in
set_option maxHeartbeats 2000000 in
theorem game_Dual.spec (R : Res) (Fr : List HProp) (A0_0 : Option Addr) (n0_0 : Nat) (c0_0 : Nat) (A0_1 : Option Addr) (n0_1 : Nat) (c0_1 : Nat) (A0_2 : Option Addr) (n0_2 : Nat) (c0_2 : Nat) (a0_0 : List Int) (a0_1 : List Int) (a0_2 : List (List Int)) (hr0_0 : RdS (Fl.int .i64).rep R.heap A0_0 a0_0) (hn0_0 : a0_0.length = n0_0) (hc0_0 : n0_0 ≤ c0_0) (hr0_1 : RdS (Fl.int .i64).rep R.heap A0_1 a0_1) (hn0_1 : a0_1.length = n0_1) (hc0_1 : n0_1 ≤ c0_1) (hr0_2 : RdS ((Fl.int .i64).rep).slice R.heap A0_2 a0_2) (hn0_2 : a0_2.length = n0_2) (hc0_2 : n0_2 ≤ c0_2) {r : (List (List Int)) × (List Int) × (List Int)} (hrun : game_Dual.f a0_0 a0_1 a0_2 = some r) :
    Spec Go.Proofs.Try.prog 34 [.agg #[.slice A0_0 n0_0 c0_0, .slice A0_1 n0_1 c0_1, .slice A0_2 n0_2 c0_2]] R (Fr) (fun v l' => ∃ (w252 : Nat) (w254 : Option Addr) (w255 : Nat) (w257 : Nat) (w259 : Option Addr) (w260 : Nat) (w262 : Nat) (w264 : Option Addr) (w265 : Nat), v = .agg #[.slice w264 w262 w265, .slice w259 w257 w260, .slice w254 w252 w255] ∧ row (Fl.int .i64) 3 w264 w262 w265 r.2.2 :: row (Fl.int .i64) 3 w259 w257 w260 r.2.1 :: rows (Fl.int .i64) 3 26 w254 w252 w255 r.1 :: Fr = l' ∧ r.1.length = w252 ∧ r.2.1.length = w257 ∧ r.2.2.length = w262) := by
  subst hn0_0
  subst hn0_1
  subst hn0_2
  refine Spec.of Go.Proofs.Try.func34 rfl rfl ?_
  unfold game_Dual.f at hrun
  have hrun := brun hrun
  refine At.seq ?_
  refine At.region ?_
  refine At.box rfl rfl (cs := [.slice A0_0 a0_0.length c0_0, .slice A0_1 a0_1.length c0_1, .slice A0_2 a0_2.length c0_2]) rfl rfl (fun b271 => ?_)
  refine At.alloc rfl rfl rfl (fun b272 => ?_)
  refine At.nil ?_
  refine At.thn ?_
  refine At.seq ?_
  refine At.region ?_
  refine At.run 1 rfl ?_
  refine At.y (Y.load rfl rfl (.s .z) rfl rfl rfl) rfl rfl rfl ?_
  obtain ⟨t273, hc274, hrun⟩ := bbind hrun
  refine At.call rfl slices_Contains_int_int.callee rfl rfl rfl (slices_Contains_int_int.spec _ _ A0_1 a0_1.length c0_1 a0_1 7 hr0_1 rfl hc0_1 hc274) ?_
  rintro _ _ ⟨rfl, rfl⟩
  refine At.run 1 rfl ?_
  refine At.nil ?_
  refine At.thn ?_
  refine At.seq ?_
  refine At.seq ?_
  refine At.region ?_
  refine At.y (Y.load rfl rfl (.s .z) rfl rfl rfl) rfl rfl rfl ?_
  obtain ⟨t275, hc276, hrun⟩ := bbind hrun
  refine At.call rfl game_is.callee rfl rfl rfl (game_is.spec _ _ A0_0 a0_0.length c0_0 A0_1 a0_1.length c0_1 A0_2 a0_2.length c0_2 a0_0 a0_1 a0_2 hr0_0 rfl hc0_0 hr0_1 rfl hc0_1 hr0_2 rfl hc0_2 hc276) ?_
  rintro _ _ ⟨rfl, rfl⟩
  refine At.run 2 rfl ?_
  obtain ⟨G478, hl479, hr480, hrun⟩ := bjoin hrun
  refine At.joinO 7 (X := Bool) (fun x477 => [(1, .pointer (some ⟨b271, 0, none⟩)), (2, .pointer (some ⟨b272, 0, none⟩)), (3, .bool t273), (19, .bool x477)]) (fun x477 => pt b272 (.cells [.slice none 0 0, .slice none 0 0, .slice none 0 0].toArray 36) :: pt b271 (.cells [.slice A0_0 a0_0.length c0_0, .slice A0_1 a0_1.length c0_1, .slice A0_2 a0_2.length c0_2].toArray 36) :: Fr) (fun x477 => G478 (.inl x477) = some r) ?_ (fun J481 => ?_)
  · rintro x477 hrun
    have hrun := (hl479 _).symm.trans hrun
    · refine At.nil ?_
      refine At.thn ?_
      rcases bite hrun with ⟨h482, hrun⟩ | ⟨h482, hrun⟩
      · · refine At.condT rfl h482 ?_
          refine At.seq ?_
          refine At.region ?_
          refine At.y (Y.build (is := []) (xo := []) (vs := []) (cs := [.slice none 0 0, .slice none 0 0, .slice none 0 0]) rfl rfl rfl rfl rfl rfl) rfl rfl rfl ?_
          refine At.store rfl rfl rfl rfl .z rfl rfl rfl (.c (.c (.c .n))) ?_
          refine At.nil ?_
          refine At.thn ?_
          refine At.ret ?_
          refine At.thr ?_
          refine At.nilRow (Fl.int .i64) 3 ?_
          refine At.nilRow (Fl.int .i64) 3 ?_
          refine At.nilRows (Fl.int .i64) 3 26 ?_
          refine At.resM (.inl rfl) rfl (RV.cell rfl rfl (.s (.s (.s .z))) rfl rfl rfl RV.nil) ?_
          refine At.drop (.s (.s (.s .z))) ?_
          refine At.drop (.s (.s (.s .z))) ?_
          refine At.frt (.s .z) ?_
          refine At.frt (.s (.s .z)) ?_
          obtain rfl := (bret hrun).symm
          exact fun a w e hs => ⟨_, ⟨0, none, 0, 0, none, 0, 0, none, 0, rfl, rfl, rfl, rfl, rfl⟩, hs⟩
      · · refine At.condF rfl (bn h482) ?_
          refine At.skip ?_
          refine At.thn ?_
          refine At.seq ?_
          refine At.region ?_
          refine At.y (Y.load rfl rfl (.s .z) rfl rfl rfl) rfl rfl rfl ?_
          obtain ⟨t483, hc484, hrun⟩ := bbind hrun
          refine At.call rfl game_Copy.callee rfl rfl rfl (game_Copy.spec _ _ A0_0 a0_0.length c0_0 A0_1 a0_1.length c0_1 A0_2 a0_2.length c0_2 a0_0 a0_1 a0_2 hr0_0 rfl hc0_0 hr0_1 rfl hc0_1 hr0_2 rfl hc0_2 hc484) ?_
          rintro _ _ ⟨w485, w486, w487, w488, w489, w490, w491, w492, w493, rfl, rfl, rfl, rfl, rfl⟩
          refine At.alloc rfl rfl rfl (fun b500 => ?_)
          refine At.store rfl rfl rfl rfl .z rfl rfl rfl (.c (.c (.c .n))) ?_
          refine At.nil ?_
          refine At.thn ?_
          refine At.seq ?_
          refine At.seq ?_
          refine At.region ?_
          refine At.run 1 rfl ?_
          refine At.y (Y.load rfl rfl .z rfl rfl rfl) rfl rfl rfl ?_
          refine At.run 2 rfl ?_
          refine At.nil ?_
          refine At.thn ?_
          refine At.block ?_
          obtain ⟨G1309, hl1310, hr1311, hrun⟩ := bjoin hrun
          obtain ⟨o1312, hlo1313, ho1314⟩ := bsome hrun
          clear hrun
          unfold game_Dual.l0 at hlo1313
          obtain ⟨m1315, hit1317⟩ := iter_some.1 hlo1313
          clear hlo1313
          refine At.loopJ (X := (List Int) × (List Int) × Int) (Y := (List Int) × (List Int)) (e0 := 0) (fun s_ => [(2, .pointer (some ⟨b272, 0, none⟩)), (3, .bool t273), (4, .pointer (some ⟨b500, 0, none⟩)), (25, .int .i64 (t483.2.2.length : Int)), (26, .int .i64 s_.2.2)]) (fun s_ => pt b500 (.cells [.slice w492 t483.2.2.length w493, .slice w489 t483.2.1.length w490, .slice w486 t483.1.length w487].toArray 36) :: row (Fl.int .i64) 3 w492 t483.2.2.length w493 s_.1 :: row (Fl.int .i64) 3 w489 t483.2.1.length w490 s_.2.1 :: rows (Fl.int .i64) 3 26 w486 t483.1.length w487 t483.1 :: pt b272 (.cells [.slice none 0 0, .slice none 0 0, .slice none 0 0].toArray 36) :: pt b271 (.cells [.slice A0_0 a0_0.length c0_0, .slice A0_1 a0_1.length c0_1, .slice A0_2 a0_2.length c0_2].toArray 36) :: Fr) (fun m_ => fun s_ => iterN (fun t_ : (List Int) × (List Int) × Int => game_Dual.l0b t273 t483 t_.1 t_.2.1 t_.2.2) m_ (s_.1, s_.2.1, s_.2.2) = some o1312) m1315 (t483.2.2, t483.2.1, 0) hit1317 (fun s_ => [(2, .pointer (some ⟨b272, 0, none⟩)), (4, .pointer (some ⟨b500, 0, none⟩))]) (fun s_ => pt b500 (.cells [.slice w492 t483.2.2.length w493, .slice w489 t483.2.1.length w490, .slice w486 t483.1.length w487].toArray 36) :: row (Fl.int .i64) 3 w492 t483.2.2.length w493 s_.1 :: row (Fl.int .i64) 3 w489 t483.2.1.length w490 s_.2 :: rows (Fl.int .i64) 3 26 w486 t483.1.length w487 t483.1 :: pt b272 (.cells [.slice none 0 0, .slice none 0 0, .slice none 0 0].toArray 36) :: pt b271 (.cells [.slice A0_0 a0_0.length c0_0, .slice A0_1 a0_1.length c0_1, .slice A0_2 a0_2.length c0_2].toArray 36) :: Fr) (fun s_ => G1309 (.inl (s_.1, s_.2)) = some r) (fun a w e hs => ⟨e.sub ⟨rfl, rfl, rfl, rfl, rfl, trivial⟩, hs⟩) ?_ (fun J1319 => ?_)
          · rintro ⟨x1307, x1308⟩ hrun
            have hrun := (hl1310 _).symm.trans hrun
            · refine At.ibx ?_
              refine At.thn ?_
              refine At.seq ?_
              refine At.region ?_
              refine At.y (Y.load rfl rfl .z rfl rfl rfl) rfl rfl rfl ?_
              refine At.store rfl rfl rfl rfl (.s (.s (.s (.s .z)))) rfl rfl rfl (.c (.c (.c .n))) ?_
              refine At.nil ?_
              refine At.thn ?_
              refine At.ret ?_
              refine At.rowLen (.s (.s (.s .z))) fun hn1320 => ?_
              refine At.rowLen (.s (.s .z)) fun hn1321 => ?_
              refine At.resM (.inl rfl) rfl (RV.cell rfl rfl .z rfl rfl rfl RV.nil) ?_
              refine At.drop .z ?_
              refine At.drop .z ?_
              refine At.drop (.s (.s (.s .z))) ?_
              obtain rfl := (bret hrun).symm
              exact fun a w e hs => ⟨_, ⟨t483.1.length, w486, w487, t483.2.1.length, w489, w490, t483.2.2.length, w492, w493, rfl, rfl, rfl, hn1320, hn1321⟩, hs⟩
          · clear hit1317 m1315
            rintro m1315 ⟨x1104, x1105, x1106⟩ hit1317
            obtain ⟨m1316, f_, hlt1318, hf_, hrun⟩ := bit hit1317
            clear hit1317
            have hrun : (game_Dual.l0b t273 t483 x1104 x1105 x1106).bind _ = some o1312 := hrun
            unfold game_Dual.l0b at hrun
            · refine At.seq ?_
              refine At.region ?_
              refine At.run 1 rfl ?_
              refine At.nil ?_
              refine At.thn ?_
              refine At.seq ?_
              rcases bite hrun with ⟨h1322, hrun⟩ | ⟨h1322, hrun⟩
              · · refine At.condT rfl (decide_eq_true h1322) ?_
                  refine At.skip ?_
                  refine At.thn ?_
                  refine At.seq ?_
                  obtain ⟨G1323, hl1324, hr1325, hrun⟩ := bjoin hrun
                  refine At.join (X := (List Int)) (fun x1527 => [(2, .pointer (some ⟨b272, 0, none⟩)), (3, .bool t273), (4, .pointer (some ⟨b500, 0, none⟩)), (25, .int .i64 (t483.2.2.length : Int)), (26, .int .i64 x1106)]) (fun x1527 => row (Fl.int .i64) 3 w489 t483.2.1.length w490 x1527 :: row (Fl.int .i64) 3 w492 t483.2.2.length w493 (st x1104 x1106 (bxor .i64 (gt x1104 x1106) 1)) :: pt b500 (.cells [.slice w492 t483.2.2.length w493, .slice w489 t483.2.1.length w490, .slice w486 t483.1.length w487].toArray 36) :: rows (Fl.int .i64) 3 26 w486 t483.1.length w487 t483.1 :: pt b272 (.cells [.slice none 0 0, .slice none 0 0, .slice none 0 0].toArray 36) :: pt b271 (.cells [.slice A0_0 a0_0.length c0_0, .slice A0_1 a0_1.length c0_1, .slice A0_2 a0_2.length c0_2].toArray 36) :: Fr) (fun x1527 => G1323 (.inl x1527) = some o1312) ?_ (fun J1326 => ?_)
                  · rintro x1527 hrun
                    have hrun := (hl1324 _).symm.trans hrun
                    · refine At.region ?_
                      refine At.run 2 rfl ?_
                      refine At.nil ?_
                      refine At.frt (.s (.s (.s (.s (.s .z))))) ?_
                      refine At.frt (.s (.s (.s (.s (.s .z))))) ?_
                      refine At.frt (.s (.s (.s (.s (.s .z))))) ?_
                      refine At.frt (.s (.s (.s .z))) ?_
                      refine At.frt (.s (.s (.s (.s .z)))) ?_
                      refine At.frt (.s (.s (.s (.s (.s .z))))) ?_
                      have hrun := bnx hf_ hrun
                      exact fun a w e hs => ⟨m1316, ((st x1104 x1106 (bxor .i64 (gt x1104 x1106) 1)), x1527, IntKind.i64.wrap (x1106 + 1)), hlt1318, hrun, e.sub ⟨rfl, rfl, rfl, rfl, rfl, trivial⟩, hs⟩
                  · · refine At.block ?_
                      refine At.seq ?_
                      refine At.region ?_
                      refine At.run 2 rfl ?_
                      refine At.nil ?_
                      refine At.thn ?_
                      refine At.seq ?_
                      refine At.region ?_
                      refine At.run 1 rfl ?_
                      refine At.y (Y.load rfl rfl .z rfl rfl rfl) rfl rfl rfl ?_
                      refine At.run 1 rfl ?_
                      obtain ⟨h1528, hrun⟩ := bnone hrun
                      refine At.y (Y.ix (.s .z) rfl rfl rfl rfl rfl rfl h1528.1 h1528.2) rfl rfl rfl ?_
                      refine At.y (Y.ld (.s .z) (q := 0) rfl rfl h1528.1 h1528.2 rfl rfl rfl) rfl rfl rfl ?_
                      refine At.run 1 rfl ?_
                      refine At.y (Y.ix (.s .z) rfl rfl rfl rfl rfl rfl h1528.1 h1528.2) rfl rfl rfl ?_
                      refine At.st rfl (.s .z) (q := 0) (z := (bxor .i64 (gt x1104 x1106) 1)) rfl rfl rfl h1528.1 h1528.2 rfl rfl (.c .n) ?_
                      refine At.nil ?_
                      refine At.thn ?_
                      refine At.seq ?_
                      refine At.region ?_
                      refine At.run 1 rfl ?_
                      refine At.nil ?_
                      refine At.thn ?_
                      rcases bite hrun with ⟨h1529, hrun⟩ | ⟨h1529, hrun⟩
                      · · refine At.condT rfl h1529 ?_
                          refine At.region ?_
                          refine At.run 1 rfl ?_
                          refine At.y (Y.load rfl rfl (.s .z) rfl rfl rfl) rfl rfl rfl ?_
                          refine At.run 1 rfl ?_
                          obtain ⟨h1530, hrun⟩ := bnone hrun
                          refine At.y (Y.ix (.s (.s .z)) rfl rfl rfl rfl rfl rfl h1530.1 h1530.2) rfl rfl rfl ?_
                          refine At.y (Y.ld (.s (.s .z)) (q := 0) rfl rfl h1530.1 h1530.2 rfl rfl rfl) rfl rfl rfl ?_
                          refine At.run 1 rfl ?_
                          refine At.y (Y.ix (.s (.s .z)) rfl rfl rfl rfl rfl rfl h1530.1 h1530.2) rfl rfl rfl ?_
                          refine At.st rfl (.s (.s .z)) (q := 0) (z := (IntKind.i64.wrap (gt x1105 x1106 - 1))) rfl rfl rfl h1530.1 h1530.2 rfl rfl (.c .n) ?_
                          refine At.nil ?_
                          refine At.ibn ?_
                          refine At.thn ?_
                          exact fun a w e hs => J1326 (st x1105 x1106 (IntKind.i64.wrap (gt x1105 x1106 - 1))) hrun a w (e.sub ⟨rfl, rfl, rfl, rfl, rfl, trivial⟩) hs
                      · · refine At.condF rfl (bn h1529) ?_
                          refine At.region ?_
                          refine At.run 1 rfl ?_
                          refine At.y (Y.load rfl rfl (.s .z) rfl rfl rfl) rfl rfl rfl ?_
                          refine At.run 1 rfl ?_
                          obtain ⟨h1531, hrun⟩ := bnone hrun
                          refine At.y (Y.ix (.s (.s .z)) rfl rfl rfl rfl rfl rfl h1531.1 h1531.2) rfl rfl rfl ?_
                          refine At.y (Y.ld (.s (.s .z)) (q := 0) rfl rfl h1531.1 h1531.2 rfl rfl rfl) rfl rfl rfl ?_
                          refine At.run 1 rfl ?_
                          refine At.y (Y.ix (.s (.s .z)) rfl rfl rfl rfl rfl rfl h1531.1 h1531.2) rfl rfl rfl ?_
                          refine At.st rfl (.s (.s .z)) (q := 0) (z := (IntKind.i64.wrap (gt x1105 x1106 + 1))) rfl rfl rfl h1531.1 h1531.2 rfl rfl (.c .n) ?_
                          refine At.nil ?_
                          refine At.ibn ?_
                          refine At.thn ?_
                          exact fun a w e hs => J1326 (st x1105 x1106 (IntKind.i64.wrap (gt x1105 x1106 + 1))) hrun a w (e.sub ⟨rfl, rfl, rfl, rfl, rfl, trivial⟩) hs
              · · refine At.condF rfl (decide_eq_false h1322) ?_
                  refine At.exit ?_
                  refine At.the ?_
                  refine At.the ?_
                  exact fun a w e hs => J1319 (x1104, x1105) (bdn hrun ho1314) a w (e.sub ⟨rfl, rfl, trivial⟩) hs
  · · rcases bite hrun with ⟨h1532, hrun⟩ | ⟨h1532, hrun⟩
      · · refine At.know (t := 12) rfl (nf h1532) ?_
          refine At.run 2 rfl ?_
          obtain ⟨G1734, hl1735, hr1736, hrun⟩ := bjoin hrun
          refine At.joinO 4 (X := Bool) (fun x1733 => [(1, .pointer (some ⟨b271, 0, none⟩)), (2, .pointer (some ⟨b272, 0, none⟩)), (3, .bool t273), (12, .bool false), (18, .bool x1733)]) (fun x1733 => pt b272 (.cells [.slice none 0 0, .slice none 0 0, .slice none 0 0].toArray 36) :: pt b271 (.cells [.slice A0_0 a0_0.length c0_0, .slice A0_1 a0_1.length c0_1, .slice A0_2 a0_2.length c0_2].toArray 36) :: Fr) (fun x1733 => G1734 (.inl x1733) = some r) ?_ (fun J1737 => ?_)
          · rintro x1733 hrun
            have hrun := (hl1735 _).symm.trans hrun
            · refine At.run 1 rfl ?_
              exact At.of (J481 x1733 hrun) ⟨rfl, rfl, rfl, rfl, trivial⟩
          · · rcases bite hrun with ⟨h1738, hrun⟩ | ⟨h1738, hrun⟩
              · · refine At.know (t := 14) rfl h1738 ?_
                  refine At.run 1 rfl ?_
                  refine At.y (Y.load rfl rfl (.s .z) rfl rfl rfl) rfl rfl rfl ?_
                  obtain ⟨t1739, hc1740, hrun⟩ := bbind hrun
                  refine At.call rfl slices_Contains_int_int.callee rfl rfl rfl (slices_Contains_int_int.spec _ _ A0_1 a0_1.length c0_1 a0_1 0 hr0_1 rfl hc0_1 hc1740) ?_
                  rintro _ _ ⟨rfl, rfl⟩
                  refine At.run 1 rfl ?_
                  exact At.of (J1737 t1739 hrun) ⟨rfl, rfl, rfl, rfl, rfl, trivial⟩
              · · refine At.know (t := 14) rfl (bn h1738) ?_
                  refine At.run 4 rfl ?_
                  exact At.of (J1737 false hrun) ⟨rfl, rfl, rfl, rfl, rfl, trivial⟩
      · · refine At.know (t := 12) rfl (nt (bn h1532)) ?_
          refine At.run 7 rfl ?_
          exact At.of (J481 true hrun) ⟨rfl, rfl, rfl, rfl, trivial⟩

noncomputable def bailifflaw16_JudgeDual.f (a0_0 : List Int) (a0_1 : List Int) (a0_2 : List (List Int)) (a1_0 : List Int) (a1_1 : List Int) (a1_2 : List Int) (a1_3 : List Int) : Option Bool :=
  (bailifflaw16_shown.f ).bind fun t272 =>
    (game_Dual.f a0_0 a0_1 a0_2).bind fun t274 =>
      jn (
        if t272 = true then
          some (.inl (decide ((t274.2.2.length : Int) = 0)))
        else
          some (.inl true)) (fun (x492 : Bool) =>
        if x492 = true then
          some t272
        else
          (judge_Judge.f a0_0 a0_1 a0_2 a1_0 a1_1 a1_2 a1_3).bind fun t523 =>
            (judge_Judge.f t274.2.2 t274.2.1 t274.1 a1_1 a1_0 a1_3 a1_2).bind fun t525 =>
              some (decide (t523.1 = 0) == decide (t525.1 = 0)))
theorem bailifflaw16_JudgeDual.callee : Callee Go.Proofs.Try.prog 14 := ⟨_, Go.Proofs.Try.func14, by kernel_rfl, by kernel_rfl⟩
set_option maxRecDepth 100000 in
set_option maxHeartbeats 2000000 in
theorem bailifflaw16_JudgeDual.spec (R : Res) (Fr : List HProp) (A0_0 : Option Addr) (n0_0 : Nat) (c0_0 : Nat) (A0_1 : Option Addr) (n0_1 : Nat) (c0_1 : Nat) (A0_2 : Option Addr) (n0_2 : Nat) (c0_2 : Nat) (A1_0 : Option Addr) (n1_0 : Nat) (c1_0 : Nat) (A1_1 : Option Addr) (n1_1 : Nat) (c1_1 : Nat) (A1_2 : Option Addr) (n1_2 : Nat) (c1_2 : Nat) (A1_3 : Option Addr) (n1_3 : Nat) (c1_3 : Nat) (a0_0 : List Int) (a0_1 : List Int) (a0_2 : List (List Int)) (a1_0 : List Int) (a1_1 : List Int) (a1_2 : List Int) (a1_3 : List Int) (hr0_0 : RdS (Fl.int .i64).rep R.heap A0_0 a0_0) (hn0_0 : a0_0.length = n0_0) (hc0_0 : n0_0 ≤ c0_0) (hr0_1 : RdS (Fl.int .i64).rep R.heap A0_1 a0_1) (hn0_1 : a0_1.length = n0_1) (hc0_1 : n0_1 ≤ c0_1) (hr0_2 : RdS ((Fl.int .i64).rep).slice R.heap A0_2 a0_2) (hn0_2 : a0_2.length = n0_2) (hc0_2 : n0_2 ≤ c0_2) (hr1_0 : RdS (Fl.int .i64).rep R.heap A1_0 a1_0) (hn1_0 : a1_0.length = n1_0) (hc1_0 : n1_0 ≤ c1_0) (hr1_1 : RdS (Fl.int .i64).rep R.heap A1_1 a1_1) (hn1_1 : a1_1.length = n1_1) (hc1_1 : n1_1 ≤ c1_1) (hr1_2 : RdS (Fl.int .i64).rep R.heap A1_2 a1_2) (hn1_2 : a1_2.length = n1_2) (hc1_2 : n1_2 ≤ c1_2) (hr1_3 : RdS (Fl.int .i64).rep R.heap A1_3 a1_3) (hn1_3 : a1_3.length = n1_3) (hc1_3 : n1_3 ≤ c1_3) {r : Bool} (hrun : bailifflaw16_JudgeDual.f a0_0 a0_1 a0_2 a1_0 a1_1 a1_2 a1_3 = some r) :
    Spec Go.Proofs.Try.prog 14 [.agg #[.slice A0_0 n0_0 c0_0, .slice A0_1 n0_1 c0_1, .slice A0_2 n0_2 c0_2], .agg #[.slice A1_0 n1_0 c1_0, .slice A1_1 n1_1 c1_1, .slice A1_2 n1_2 c1_2, .slice A1_3 n1_3 c1_3]] R (Fr) (fun v l' => v = .bool r ∧ Fr = l') := by
  subst hn0_0
  subst hn0_1
  subst hn0_2
  subst hn1_0
  subst hn1_1
  subst hn1_2
  subst hn1_3
  refine Spec.of Go.Proofs.Try.func14 rfl rfl ?_
  unfold bailifflaw16_JudgeDual.f at hrun
  have hrun := brun hrun
  refine At.seq ?_
  refine At.region ?_
  refine At.box rfl rfl (cs := [.slice A0_0 a0_0.length c0_0, .slice A0_1 a0_1.length c0_1, .slice A0_2 a0_2.length c0_2]) rfl rfl (fun b270 => ?_)
  refine At.box rfl rfl (cs := [.slice A1_0 a1_0.length c1_0, .slice A1_1 a1_1.length c1_1, .slice A1_2 a1_2.length c1_2, .slice A1_3 a1_3.length c1_3]) rfl rfl (fun b271 => ?_)
  refine At.run 1 rfl ?_
  refine At.nil ?_
  refine At.thn ?_
  refine At.seq ?_
  refine At.region ?_
  obtain ⟨t272, hc273, hrun⟩ := bbind hrun
  refine At.call rfl bailifflaw16_shown.callee rfl rfl rfl (bailifflaw16_shown.spec _ _    hc273) ?_
  rintro _ _ ⟨rfl, rfl⟩
  refine At.run 1 rfl ?_
  refine At.nil ?_
  refine At.thn ?_
  refine At.seq ?_
  refine At.region ?_
  refine At.y (Y.load rfl rfl (.s .z) rfl rfl rfl) rfl rfl rfl ?_
  obtain ⟨t274, hc275, hrun⟩ := bbind hrun
  refine At.call rfl game_Dual.callee rfl rfl rfl (game_Dual.spec _ _ A0_0 a0_0.length c0_0 A0_1 a0_1.length c0_1 A0_2 a0_2.length c0_2 a0_0 a0_1 a0_2 hr0_0 rfl hc0_0 hr0_1 rfl hc0_1 hr0_2 rfl hc0_2 hc275) ?_
  rintro _ _ ⟨w276, w277, w278, w279, w280, w281, w282, w283, w284, rfl, rfl, rfl, rfl, rfl⟩
  refine At.alloc rfl rfl rfl (fun b291 => ?_)
  refine At.store rfl rfl rfl rfl .z rfl rfl rfl (.c (.c (.c .n))) ?_
  refine At.nil ?_
  refine At.thn ?_
  refine At.seq ?_
  refine At.seq ?_
  refine At.region ?_
  refine At.run 3 rfl ?_
  obtain ⟨G493, hl494, hr495, hrun⟩ := bjoin hrun
  refine At.joinO 5 (X := Bool) (fun x492 => [(2, .pointer (some ⟨b270, 0, none⟩)), (3, .pointer (some ⟨b271, 0, none⟩)), (5, .bool t272), (6, .pointer (some ⟨b291, 0, none⟩)), (18, .bool x492)]) (fun x492 => pt b291 (.cells [.slice w283 t274.2.2.length w284, .slice w280 t274.2.1.length w281, .slice w277 t274.1.length w278].toArray 36) :: row (Fl.int .i64) 3 w283 t274.2.2.length w284 t274.2.2 :: row (Fl.int .i64) 3 w280 t274.2.1.length w281 t274.2.1 :: rows (Fl.int .i64) 3 26 w277 t274.1.length w278 t274.1 :: pt b271 (.cells [.slice A1_0 a1_0.length c1_0, .slice A1_1 a1_1.length c1_1, .slice A1_2 a1_2.length c1_2, .slice A1_3 a1_3.length c1_3].toArray 39) :: pt b270 (.cells [.slice A0_0 a0_0.length c0_0, .slice A0_1 a0_1.length c0_1, .slice A0_2 a0_2.length c0_2].toArray 36) :: Fr) (fun x492 => G493 (.inl x492) = some r) ?_ (fun J496 => ?_)
  · rintro x492 hrun
    have hrun := (hl494 _).symm.trans hrun
    · refine At.nil ?_
      refine At.thn ?_
      rcases bite hrun with ⟨h497, hrun⟩ | ⟨h497, hrun⟩
      · · refine At.condT rfl h497 ?_
          refine At.seq ?_
          refine At.region ?_
          refine At.run 2 rfl ?_
          refine At.nil ?_
          refine At.thn ?_
          refine At.ret ?_
          refine At.thr ?_
          refine At.drop .z ?_
          refine At.drop .z ?_
          refine At.drop .z ?_
          refine At.drop .z ?_
          refine At.drop .z ?_
          refine At.drop .z ?_
          obtain rfl := (bret hrun).symm
          exact At.res (.inl rfl) rfl rfl ⟨rfl, rfl⟩
      · · refine At.condF rfl (bn h497) ?_
          refine At.skip ?_
          refine At.thn ?_
          refine At.seq ?_
          refine At.region ?_
          refine At.run 1 rfl ?_
          refine At.y (Y.ixArrK rfl rfl rfl rfl rfl (show (0 : Int) ≤ 1 ∧ (1 : Int) < 2 by decide).1 (show (0 : Int) ≤ 1 ∧ (1 : Int) < 2 by decide).2 (q := 1) (off := 1) rfl rfl) rfl rfl rfl ?_
          refine At.y (Y.load rfl rfl (.s (.s (.s (.s .z)))) rfl rfl rfl) rfl rfl rfl ?_
          refine At.run 1 rfl ?_
          refine At.y (Y.ixArrK rfl rfl rfl rfl rfl (show (0 : Int) ≤ 0 ∧ (0 : Int) < 2 by decide).1 (show (0 : Int) ≤ 0 ∧ (0 : Int) < 2 by decide).2 (q := 0) (off := 0) rfl rfl) rfl rfl rfl ?_
          refine At.y (Y.load rfl rfl (.s (.s (.s (.s .z)))) rfl rfl rfl) rfl rfl rfl ?_
          refine At.y (Y.buildA (is := [0, 1]) (xo := [.tmp 22, .tmp 25]) (vs := [.slice A1_1 a1_1.length c1_1, .slice A1_0 a1_0.length c1_0]) (cs := [.slice A1_1 a1_1.length c1_1, .slice A1_0 a1_0.length c1_0]) rfl rfl rfl rfl rfl rfl) rfl rfl rfl ?_
          refine At.run 1 rfl ?_
          refine At.y (Y.ixArrK rfl rfl rfl rfl rfl (show (0 : Int) ≤ 1 ∧ (1 : Int) < 2 by decide).1 (show (0 : Int) ≤ 1 ∧ (1 : Int) < 2 by decide).2 (q := 1) (off := 3) rfl rfl) rfl rfl rfl ?_
          refine At.y (Y.load rfl rfl (.s (.s (.s (.s .z)))) rfl rfl rfl) rfl rfl rfl ?_
          refine At.run 1 rfl ?_
          refine At.y (Y.ixArrK rfl rfl rfl rfl rfl (show (0 : Int) ≤ 0 ∧ (0 : Int) < 2 by decide).1 (show (0 : Int) ≤ 0 ∧ (0 : Int) < 2 by decide).2 (q := 0) (off := 2) rfl rfl) rfl rfl rfl ?_
          refine At.y (Y.load rfl rfl (.s (.s (.s (.s .z)))) rfl rfl rfl) rfl rfl rfl ?_
          refine At.y (Y.buildA (is := [0, 1]) (xo := [.tmp 29, .tmp 32]) (vs := [.slice A1_3 a1_3.length c1_3, .slice A1_2 a1_2.length c1_2]) (cs := [.slice A1_3 a1_3.length c1_3, .slice A1_2 a1_2.length c1_2]) rfl rfl rfl rfl rfl rfl) rfl rfl rfl ?_
          refine At.y (Y.build (is := [0, 1]) (xo := [.tmp 26, .tmp 33]) (vs := [.agg #[.slice A1_1 a1_1.length c1_1, .slice A1_0 a1_0.length c1_0], .agg #[.slice A1_3 a1_3.length c1_3, .slice A1_2 a1_2.length c1_2]]) (cs := [.slice A1_1 a1_1.length c1_1, .slice A1_0 a1_0.length c1_0, .slice A1_3 a1_3.length c1_3, .slice A1_2 a1_2.length c1_2]) rfl rfl rfl rfl rfl rfl) rfl rfl rfl ?_
          refine At.alloc rfl rfl rfl (fun b498 => ?_)
          refine At.store rfl rfl rfl rfl .z rfl rfl rfl (.c (.c (.c (.c .n)))) ?_
          refine At.nil ?_
          refine At.thn ?_
          refine At.seq ?_
          refine At.freeze (.s (.s .z)) fun R501 hr502 hn503 hc504 hs505 th506 => ?_
          refine At.freeze (.s (.s .z)) fun R509 hr510 hn511 hc512 hs513 th514 => ?_
          refine At.freezeRows (.s (.s .z)) fun R517 hr518 hn519 hc520 hs521 th522 => ?_
          refine At.quiet (by kernel_rfl) ?_
          refine At.Quiet.y (Y.load rfl rfl (.s (.s (.s .z))) rfl rfl rfl) rfl rfl rfl ?_
          refine At.Quiet.y (Y.load rfl rfl (.s (.s .z)) rfl rfl rfl) rfl rfl rfl ?_
          obtain ⟨t523, hc524, hrun⟩ := bbind hrun
          refine At.Quiet.call rfl judge_Judge.callee rfl rfl rfl (judge_Judge.spec _ _ A0_0 a0_0.length c0_0 A0_1 a0_1.length c0_1 A0_2 a0_2.length c0_2 A1_0 a1_0.length c1_0 A1_1 a1_1.length c1_1 A1_2 a1_2.length c1_2 A1_3 a1_3.length c1_3 a0_0 a0_1 a0_2 a1_0 a1_1 a1_2 a1_3 (RdS.mono ((hs505.trans hs513).trans hs521) hr0_0) rfl hc0_0 (RdS.mono ((hs505.trans hs513).trans hs521) hr0_1) rfl hc0_1 (RdS.mono ((hs505.trans hs513).trans hs521) hr0_2) rfl hc0_2 (RdS.mono ((hs505.trans hs513).trans hs521) hr1_0) rfl hc1_0 (RdS.mono ((hs505.trans hs513).trans hs521) hr1_1) rfl hc1_1 (RdS.mono ((hs505.trans hs513).trans hs521) hr1_2) rfl hc1_2 (RdS.mono ((hs505.trans hs513).trans hs521) hr1_3) rfl hc1_3 hc524) (fun _ _ h_ => ⟨h_.1, fun _ hs => h_.2 ▸ hs⟩) ?_
          refine At.Quiet.run 2 rfl ?_
          refine At.Quiet.y (Y.load rfl rfl (.s .z) rfl rfl rfl) rfl rfl rfl ?_
          refine At.Quiet.y (Y.load rfl rfl .z rfl rfl rfl) rfl rfl rfl ?_
          obtain ⟨t525, hc526, hrun⟩ := bbind hrun
          refine At.Quiet.call rfl judge_Judge.callee rfl rfl rfl (judge_Judge.spec _ _ w283 t274.2.2.length w284 w280 t274.2.1.length w281 w277 t274.1.length w278 A1_1 a1_1.length c1_1 A1_0 a1_0.length c1_0 A1_3 a1_3.length c1_3 A1_2 a1_2.length c1_2 t274.2.2 t274.2.1 t274.1 a1_1 a1_0 a1_3 a1_2 (RdS.mono (hs513.trans hs521) hr502) hn503 hc504 (RdS.mono hs521 hr510) hn511 hc512 hr518 hn519 hc520 (RdS.mono ((hs505.trans hs513).trans hs521) hr1_1) rfl hc1_1 (RdS.mono ((hs505.trans hs513).trans hs521) hr1_0) rfl hc1_0 (RdS.mono ((hs505.trans hs513).trans hs521) hr1_3) rfl hc1_3 (RdS.mono ((hs505.trans hs513).trans hs521) hr1_2) rfl hc1_2 hc526) (fun _ _ h_ => ⟨h_.1, fun _ hs => h_.2 ▸ hs⟩) ?_
          refine At.Quiet.run 4 rfl ?_
          refine At.Quiet.nil ?_
          refine At.thn ?_
          refine At.ret ?_
          refine At.thaw th522 ?_
          refine At.thaw th514 ?_
          refine At.thaw th506 ?_
          refine At.drop .z ?_
          refine At.drop .z ?_
          refine At.drop .z ?_
          refine At.drop .z ?_
          refine At.drop .z ?_
          refine At.drop .z ?_
          refine At.drop .z ?_
          obtain rfl := (bret hrun).symm
          exact At.res (.inl rfl) rfl rfl ⟨rfl, rfl⟩
  · · rcases bite hrun with ⟨h527, hrun⟩ | ⟨h527, hrun⟩
      · · refine At.know (t := 13) rfl (nf h527) ?_
          refine At.run 1 rfl ?_
          refine At.y (Y.load rfl rfl .z rfl rfl rfl) rfl rfl rfl ?_
          refine At.run 3 rfl ?_
          exact At.of (J496 (decide ((t274.2.2.length : Int) = 0)) hrun) ⟨rfl, rfl, rfl, rfl, rfl, trivial⟩
      · · refine At.know (t := 13) rfl (nt (bn h527)) ?_
          refine At.run 5 rfl ?_
          exact At.of (J496 true hrun) ⟨rfl, rfl, rfl, rfl, rfl, trivial⟩

end Go.Bw
