/- LtsPrints, part 4: walks and plain laws. Conditions: none. -/
import Derived.Test.YtbkooifhcekpmaaGreatDoorProg
import Derived.Deep.QuietTactic
import Derived.LaidMore
import Derived.ProofKit
import Derived.OpenShut
import Derived.ChangeKeysEq
import Derived.Lib.AppendStr
import Derived.Lib.UnsafeStr
import Derived.Lib.Builder
import Derived.Laws.BytesString
import Derived.Test.YtbkooifhcekpmaaGreatDoorBwLtsPrintsC
set_option linter.unusedVariables false
set_option linter.unusedSimpArgs false
set_option linter.unusedSectionVars false
set_option maxRecDepth 100000
set_option maxHeartbeats 2000000
namespace Go.Bw
open Go Go.RowKit Go.Proofs
noncomputable def Q18.l1b (a0_6 : List Q4) (t1103 : List Bs) (x1712 : List Q0) (x1718 : Int) : Option (((List Q0) × Int) ⊕ (((List Q0)) ⊕ ((List Q1) × (List Q0) × (List Bs) × Int))) :=
 if x1718 < (a0_6.length : Int) then
 if (0 : Int) ≤ x1718 ∧ x1718 < (a0_6.length : Int) then
 (Q23.f t1103 ((gt a0_6 x1718).action)).bind fun t1953 =>
 if (x1712.length + ([(⟨(gt a0_6 x1718).from_, t1953, (gt a0_6 x1718).to⟩ : Q0)] : List Q0).length) * 24 ≤ 140737488355328 then
 nx ((x1712 ++ ([(⟨(gt a0_6 x1718).from_, t1953, (gt a0_6 x1718).to⟩ : Q0)] : List Q0)), IntKind.i64.wrap (x1718 + 1))
 else none
 else none
 else
 dn (.inl x1712)
noncomputable def Q18.l1 (a0_6 : List Q4) (t1103 : List Bs) (x1712 : List Q0) (x1718 : Int) : Option (((List Q0)) ⊕ ((List Q1) × (List Q0) × (List Bs) × Int)) := iter (fun t_ : (List Q0) × Int => Q18.l1b a0_6 t1103 t_.1 t_.2) (x1712, x1718)
noncomputable def Q18.l0b  (z1097 : Bs × Bool) (x878 : List Bs) : Option ((List Bs)) :=
 if (x878.length + ([z1097.1] : List Bs).length) * 16 ≤ 140737488355328 then
 some (x878 ++ ([z1097.1] : List Bs))
 else none
noncomputable def Q18.f (a0_0 : List Q3) (a0_1 : Option Q2) (a0_2 : Int) (a0_3 : List Bs) (a0_4 : List Q0) (a0_5 : List Q1) (a0_6 : List Q4) (a0_7 : List (Bs × Bool)) : Option ((List Q1) × (List Q0) × (List Bs) × Int) :=
 ordered a0_7 (fun (t_ : (List Bs)) (z_ : Bs × Bool) => Q18.l0b  z_ t_) a0_3 (fun x878 => x878) (fun (x1084 : List Bs) =>
 (Q88.f x1084).bind fun t1103 =>
 jn (Q18.l1 a0_6 t1103 a0_4 0) (fun (x1919 : List Q0) =>
 (Q51.f x1919).bind fun t1936 =>
 (Q52.f a0_5).bind fun t1938 =>
 some (t1938, t1936, t1103, a0_2)))
theorem Q18.callee : Callee Tryz.prog 76 := ⟨_, Tryz.func76, by kernel_rfl, by kernel_rfl⟩
theorem Q18.spec (R : Res) (Fr : List HProp) (b0 : Nat) (A0_0 : Option Addr) (n0_0 : Nat) (c0_0 : Nat) (p0_1 : Option Nat) (A0_3 : Option Addr) (n0_3 : Nat) (c0_3 : Nat) (A0_4 : Option Addr) (n0_4 : Nat) (c0_4 : Nat) (A0_5 : Option Addr) (n0_5 : Nat) (c0_5 : Nat) (A0_6 : Option Addr) (n0_6 : Nat) (c0_6 : Nat) (b0_7 : Nat) (a0_0 : List Q3) (a0_1 : Option Q2) (a0_2 : Int) (a0_3 : List Bs) (a0_4 : List Q0) (a0_5 : List Q1) (a0_6 : List Q4) (a0_7 : List (Bs × Bool)) (hr0_0 : RdS Q3.fl.rep R.heap A0_0 a0_0) (hn0_0 : a0_0.length = n0_0) (hc0_0 : n0_0 ≤ c0_0) (hn0_3 : a0_3.length = n0_3) (hn0_4 : a0_4.length = n0_4) (hn0_5 : a0_5.length = n0_5) (hn0_6 : a0_6.length = n0_6) {r : (List Q1) × (List Q0) × (List Bs) × Int} (j : Q18.f a0_0 a0_1 a0_2 a0_3 a0_4 a0_5 a0_6 a0_7 = some r) :
 Spec Tryz.prog 76 [.pointer (some ⟨b0, 0, none⟩)] R (pt b0 (.cells [.slice A0_0 n0_0 c0_0, optp p0_1, .int .i64 a0_2, .slice A0_3 n0_3 c0_3, .slice A0_4 n0_4 c0_4, .slice A0_5 n0_5 c0_5, .slice A0_6 n0_6 c0_6, .map (some b0_7)].toArray 114) :: optb (Ow.fl Q2.fl) 58 p0_1 a0_1 :: row Fl.bs 9 A0_3 n0_3 c0_3 a0_3 :: row Q0.fl 35 A0_4 n0_4 c0_4 a0_4 :: grow Q1.ow 37 A0_5 n0_5 c0_5 a0_5 :: row Q4.fl 148 A0_6 n0_6 c0_6 a0_6 :: mapo Fl.bs.ov Fl.bool.ov b0_7 a0_7 :: Fr) (fun v l' => ∃ (w254 : Nat) (w256 : Option Addr) (w257 : Nat) (w259 : Nat) (w261 : Option Addr) (w262 : Nat) (w264 : Value) (w265 : Value), v = .agg #[.int .i64 r.2.2.2, .slice w261 w259 w262, .slice w256 w254 w257, .slice A0_5 n0_5 c0_5] ∧ pt b0 (.cells [.slice A0_0 n0_0 c0_0, optp p0_1, .int .i64 a0_2, w264, w265, .slice A0_5 n0_5 c0_5, .slice A0_6 n0_6 c0_6, .map (some b0_7)].toArray 114) :: optb (Ow.fl Q2.fl) 58 p0_1 a0_1 :: row Fl.bs 9 w261 w259 w262 r.2.2.1 :: row Q0.fl 35 w256 w254 w257 r.2.1 :: grow Q1.ow 37 A0_5 n0_5 c0_5 r.1 :: row Q4.fl 148 A0_6 n0_6 c0_6 a0_6 :: mapo Fl.bs.ov Fl.bool.ov b0_7 a0_7 :: Fr = l' ∧ r.2.1.length = w254 ∧ r.2.2.1.length = w259) := by
 subst hn0_0; subst hn0_3; subst hn0_4; subst hn0_5; subst hn0_6; refine Spec.of Tryz.func76 rfl rfl ?_; unfold Q18.f at j; have j := brun j; refine At.seq (At.region ?_); refine At.alloc rfl rfl rfl (fun b267 => ?_); refine At.nil (At.thn (At.seq (At.region (At.run 3 rfl (At.y (Y.load rfl rfl (.s .z) rfl rfl rfl) rfl rfl rfl ?_))))); refine At.alloc rfl rfl rfl (fun b268 => ?_); refine At.store rfl rfl rfl rfl .z rfl rfl rfl (.c (.c (.c (.c .n)))) ?_; refine At.nil (At.thn (At.seq (At.seq (At.region (At.run 3 rfl (At.y (Y.load rfl rfl (.s (.s .z)) rfl rfl rfl) rfl rfl rfl ?_)))))); refine At.rangeMap (.s (.s (.s (.s (.s (.s (.s (.s .z)))))))) rfl rfl rfl rfl rfl (fun r269 => ?_); refine At.nil (At.thn ?_); refine At.block ?_; obtain ⟨G1090, hl1091, hall1092⟩ := bordered j; clear j; refine At.loopJ (X := (List Bs) × (List (Bs × Bool)) × Nat × (Option Addr) × Nat × Value) (Y := (List Bs) × Nat × (Option Addr) × Nat × Value) (e0 := 0) (fun s_ => [(0, .pointer (some ⟨b0, 0, none⟩)), (2, .pointer (some ⟨b267, 0, none⟩)), (3, .pointer (some ⟨b268, 0, none⟩)), (15, .pointer (some ⟨r269, 0, none⟩))]) (fun s_ => rngo Fl.bs.ov Fl.bool.ov b0_7 r269 a0_7 s_.2.1 :: pt b268 (.cells [.int .i64 a0_2, .slice s_.2.2.2.1 s_.2.2.1 s_.2.2.2.2.1, .slice A0_4 a0_4.length c0_4, .slice A0_5 a0_5.length c0_5].toArray 26) :: pt b267 (.cells [.int .i64 0, .slice none 0 0, .slice none 0 0, .slice none 0 0].toArray 26) :: pt b0 (.cells [.slice A0_0 a0_0.length c0_0, optp p0_1, .int .i64 a0_2, s_.2.2.2.2.2, .slice A0_4 a0_4.length c0_4, .slice A0_5 a0_5.length c0_5, .slice A0_6 a0_6.length c0_6, .map (some b0_7)].toArray 114) :: optb (Ow.fl Q2.fl) 58 p0_1 a0_1 :: row Fl.bs 9 s_.2.2.2.1 s_.2.2.1 s_.2.2.2.2.1 s_.1 :: row Q0.fl 35 A0_4 a0_4.length c0_4 a0_4 :: grow Q1.ow 37 A0_5 a0_5.length c0_5 a0_5 :: row Q4.fl 148 A0_6 a0_6.length c0_6 a0_6 :: Fr) (fun m_ => fun s_ => (foldO (fun (t_ : (List Bs)) (z_ : Bs × Bool) => Q18.l0b  z_ t_) a0_3 s_.2.1 = some s_.1 ∧ m_ + (s_.2.1).length = (a0_7).length) ∧ s_.1.length = s_.2.2.1) (a0_7).length (a0_3, [], a0_3.length, A0_3, c0_3, .slice A0_3 a0_3.length c0_3) ⟨⟨rfl, rfl⟩, rfl⟩ (fun s_ => [(0, .pointer (some ⟨b0, 0, none⟩)), (2, .pointer (some ⟨b267, 0, none⟩)), (3, .pointer (some ⟨b268, 0, none⟩))]) (fun s_ => mapo Fl.bs.ov Fl.bool.ov b0_7 a0_7 :: pt b268 (.cells [.int .i64 a0_2, .slice s_.2.2.1 s_.2.1 s_.2.2.2.1, .slice A0_4 a0_4.length c0_4, .slice A0_5 a0_5.length c0_5].toArray 26) :: pt b267 (.cells [.int .i64 0, .slice none 0 0, .slice none 0 0, .slice none 0 0].toArray 26) :: pt b0 (.cells [.slice A0_0 a0_0.length c0_0, optp p0_1, .int .i64 a0_2, s_.2.2.2.2, .slice A0_4 a0_4.length c0_4, .slice A0_5 a0_5.length c0_5, .slice A0_6 a0_6.length c0_6, .map (some b0_7)].toArray 114) :: optb (Ow.fl Q2.fl) 58 p0_1 a0_1 :: row Fl.bs 9 s_.2.2.1 s_.2.1 s_.2.2.2.1 s_.1 :: row Q0.fl 35 A0_4 a0_4.length c0_4 a0_4 :: grow Q1.ow 37 A0_5 a0_5.length c0_5 a0_5 :: row Q4.fl 148 A0_6 a0_6.length c0_6 a0_6 :: Fr) (fun s_ => G1090 s_.1 = some r ∧ s_.1.length = s_.2.1) (fun a w e hs => ⟨e.sub ⟨rfl, rfl, rfl, rfl, trivial⟩, hs⟩) ?_ (fun J1096 => ?_)
 ·rintro ⟨x1084, w1085, w1087, w1088, w1089⟩ ⟨j, hn1086⟩; obtain rfl : x1084.length = w1085 := hn1086; have j := (hl1091 _).symm.trans j
  ·refine At.ibx ?_; refine At.thn (At.seq (At.region (At.run 1 rfl (At.y (Y.load rfl rfl (.s .z) rfl rfl rfl) rfl rfl rfl (At.f5 ?_))))); obtain ⟨t1103, hc1104, j⟩ := bbind j; refine At.call rfl Q88.callee rfl rfl rfl (Q88.spec _ _ w1087 x1084.length w1088 x1084 rfl hc1104) ?_; rintro _ _ ⟨rfl, rfl⟩; refine At.nil (At.thn (At.seq (At.seq (At.region (At.run 3 rfl ?_))))); refine At.y (Y.load rfl rfl (.s (.s (.s (.s .z)))) rfl rfl rfl) rfl rfl rfl ?_; refine At.run 2 rfl (At.nil (At.thn ?_)); refine At.block ?_; obtain ⟨G1925, hl1926, hr1927, j⟩ := bjoin j; obtain ⟨o1928, hlo1929, ho1930⟩ := bsome j; clear j; unfold Q18.l1 at hlo1929; obtain ⟨m1931, hit1933⟩ := Q17.1 hlo1929; clear hlo1929; refine At.loopJ (X := (List Q0) × Int × Nat × (Option Addr) × Nat × Value) (Y := (List Q0) × Nat × (Option Addr) × Nat × Value) (e0 := 2) (fun s_ => [(2, .pointer (some ⟨b267, 0, none⟩)), (3, .pointer (some ⟨b268, 0, none⟩)), (32, .slice A0_6 a0_6.length c0_6), (33, .int .i64 (a0_6.length : Int)), (34, .int .i64 s_.2.1)]) (fun s_ => row Fl.bs 9 w1087 x1084.length w1088 t1103 :: mapo Fl.bs.ov Fl.bool.ov b0_7 a0_7 :: pt b268 (.cells [.int .i64 a0_2, .slice w1087 x1084.length w1088, .slice s_.2.2.2.1 s_.2.2.1 s_.2.2.2.2.1, .slice A0_5 a0_5.length c0_5].toArray 26) :: pt b267 (.cells [.int .i64 0, .slice none 0 0, .slice none 0 0, .slice none 0 0].toArray 26) :: pt b0 (.cells [.slice A0_0 a0_0.length c0_0, optp p0_1, .int .i64 a0_2, w1089, s_.2.2.2.2.2, .slice A0_5 a0_5.length c0_5, .slice A0_6 a0_6.length c0_6, .map (some b0_7)].toArray 114) :: optb (Ow.fl Q2.fl) 58 p0_1 a0_1 :: row Q0.fl 35 s_.2.2.2.1 s_.2.2.1 s_.2.2.2.2.1 s_.1 :: grow Q1.ow 37 A0_5 a0_5.length c0_5 a0_5 :: row Q4.fl 148 A0_6 a0_6.length c0_6 a0_6 :: Fr) (fun m_ => fun s_ => iterN (fun t_ : (List Q0) × Int => Q18.l1b a0_6 t1103 t_.1 t_.2) m_ (s_.1, s_.2.1) = some o1928 ∧ s_.1.length = s_.2.2.1) m1931 (a0_4, 0, a0_4.length, A0_4, c0_4, .slice A0_4 a0_4.length c0_4) ⟨hit1933, rfl⟩ (fun s_ => [(2, .pointer (some ⟨b267, 0, none⟩)), (3, .pointer (some ⟨b268, 0, none⟩))]) (fun s_ => row Fl.bs 9 w1087 x1084.length w1088 t1103 :: mapo Fl.bs.ov Fl.bool.ov b0_7 a0_7 :: pt b268 (.cells [.int .i64 a0_2, .slice w1087 x1084.length w1088, .slice s_.2.2.1 s_.2.1 s_.2.2.2.1, .slice A0_5 a0_5.length c0_5].toArray 26) :: pt b267 (.cells [.int .i64 0, .slice none 0 0, .slice none 0 0, .slice none 0 0].toArray 26) :: pt b0 (.cells [.slice A0_0 a0_0.length c0_0, optp p0_1, .int .i64 a0_2, w1089, s_.2.2.2.2, .slice A0_5 a0_5.length c0_5, .slice A0_6 a0_6.length c0_6, .map (some b0_7)].toArray 114) :: optb (Ow.fl Q2.fl) 58 p0_1 a0_1 :: row Q0.fl 35 s_.2.2.1 s_.2.1 s_.2.2.2.1 s_.1 :: grow Q1.ow 37 A0_5 a0_5.length c0_5 a0_5 :: row Q4.fl 148 A0_6 a0_6.length c0_6 a0_6 :: Fr) (fun s_ => G1925 (.inl s_.1) = some r ∧ s_.1.length = s_.2.1) (fun a w e hs => ⟨e.sub ⟨rfl, rfl, rfl, rfl, rfl, trivial⟩, (by exact hs)⟩) ?_ (fun J1935 => ?_)
   ·rintro ⟨x1919, w1920, w1922, w1923, w1924⟩ ⟨j, hn1921⟩; obtain rfl : x1919.length = w1920 := hn1921; have j := (hl1926 _).symm.trans j
    ·refine At.ibx ?_; refine At.thn (At.seq (At.region (At.run 1 rfl (At.y (Y.load rfl rfl (.s (.s .z)) rfl rfl rfl) rfl rfl rfl (At.f6 ?_))))); obtain ⟨t1936, hc1937, j⟩ := bbind j; refine At.call rfl Q51.callee rfl rfl rfl (Q51.spec _ _ w1922 x1919.length w1923 x1919 rfl hc1937) ?_; rintro _ _ ⟨rfl, rfl⟩; refine At.nil (At.thn (At.seq (At.region (At.run 1 rfl (At.y (Y.load rfl rfl (.s (.s (.s .z))) rfl rfl rfl) rfl rfl rfl (At.f7 ?_)))))); obtain ⟨t1938, hc1939, j⟩ := bbind j; refine At.call rfl Q52.callee rfl rfl rfl (Q52.spec _ _ A0_5 a0_5.length c0_5 a0_5 rfl hc1939) ?_; rintro _ _ ⟨rfl, rfl⟩; refine At.nil (At.thn (At.seq (At.region ?_))); refine At.y (Y.load rfl rfl (.s (.s (.s (.s .z)))) rfl rfl rfl) rfl rfl rfl ?_; refine At.store rfl rfl rfl rfl (.s (.s (.s (.s (.s .z))))) rfl rfl rfl (.c (.c (.c (.c .n)))) ?_; refine At.nil (At.thn (At.ret ?_)); refine At.rowLen (.s (.s .z)) fun hn1940 => ?_; refine At.rowLen (.s (.s (.s .z))) fun hn1941 => ?_; refine At.resM (.inl rfl) rfl (RV.cell rfl rfl .z rfl rfl rfl RV.nil) ?_; refine At.drop .z (At.drop (.s (.s (.s (.s .z)))) (At.f3 (At.f6 (At.f2 (At.f3 (At.f4 (At.f6 ?_))))))); refine At.f6 ?_; cases bret j; exact fun a w e hs => ⟨_, ⟨x1919.length, w1922, w1923, x1084.length, w1087, w1088, w1089, w1924, rfl, rfl, hn1940, hn1941⟩, hs⟩
   ·clear hit1933 m1931; rintro m1931 ⟨x1712, x1718, w1713, w1715, w1716, w1717⟩ ⟨hit1933, hn1714⟩; obtain rfl : x1712.length = w1713 := hn1714; obtain ⟨m1932, f_, hlt1934, hf_, j⟩ := bit hit1933; clear hit1933; have j : (Q18.l1b a0_6 t1103 x1712 x1718).bind _ = some o1928 := j; unfold Q18.l1b at j
    ·refine At.seq (At.region (At.run 1 rfl (At.nil (At.thn (At.seq ?_))))); rcases bite j with ⟨h1942, j⟩ | ⟨h1942, j⟩
     ··refine At.condT rfl (decide_eq_true h1942) ?_
       refine At.skip (At.thn (At.seq ?_)); refine At.block ?_; refine At.seq (At.region ?_); obtain ⟨h1943, j⟩ := bnone j; refine At.y (Y.ix (.s (.s (.s (.s (.s (.s (.s (.s .z)))))))) rfl rfl rfl rfl rfl rfl h1943.1 h1943.2) rfl rfl rfl ?_; refine At.y (Y.ld (.s (.s (.s (.s (.s (.s (.s (.s .z)))))))) (q := 0) rfl rfl h1943.1 h1943.2 rfl rfl rfl) rfl rfl rfl ?_; refine At.alloc rfl rfl rfl (fun b1944 => ?_); refine At.store rfl rfl rfl rfl .z rfl rfl rfl (.c (.c (.c .n))) ?_; refine At.nil (At.thn ?_); refine At.freeze (.s .z) fun R1947 hr1948 hn1949 hc1950 hs1951 th1952 => ?_; refine At.held [pt b1944 (.cells [.int .i64 ((gt a0_6 x1718).from_), .string ⟨((gt a0_6 x1718).action).toArray⟩, .int .i64 ((gt a0_6 x1718).to)].toArray 148), mapo Fl.bs.ov Fl.bool.ov b0_7 a0_7, pt b267 (.cells [.int .i64 0, .slice none 0 0, .slice none 0 0, .slice none 0 0].toArray 26), pt b0 (.cells [.slice A0_0 a0_0.length c0_0, optp p0_1, .int .i64 a0_2, w1089, w1717, .slice A0_5 a0_5.length c0_5, .slice A0_6 a0_6.length c0_6, .map (some b0_7)].toArray 114), optb (Ow.fl Q2.fl) 58 p0_1 a0_1, grow Q1.ow 37 A0_5 a0_5.length c0_5 a0_5, row Q4.fl 148 A0_6 a0_6.length c0_6 a0_6] 16 rfl ?_; refine At.H.pw 0 rfl rfl rfl rfl rfl (.c .z (.c .z (.c (.s .z) (.c (.s .z) (.c (.s .z) (.c (.s (.s .z)) (.c (.s (.s .z)) .n))))))) ?_; refine At.H.pw 2 rfl rfl rfl rfl rfl (.c .z (.c .z (.c (.s .z) (.c (.s .z) (.c (.s .z) (.c (.s (.s .z)) (.c (.s (.s .z)) .n))))))) ?_; refine At.H.tw 3 rfl (Y.load rfl rfl .z rfl rfl rfl) rfl rfl rfl (.c .z (.c .z (.c (.s .z) (.c (.s .z) (.c (.s .z) (.c (.s (.s .z)) (.c (.s (.s .z)) .n))))))) ?_; refine At.H.pw 4 rfl rfl rfl rfl rfl (.c .z (.c .z (.c (.s .z) (.c (.s .z) (.c (.s .z) (.c (.s (.s .z)) (.c (.s (.s .z)) .n))))))) ?_; refine At.H.pw 6 rfl rfl rfl rfl rfl (.c .z (.c .z (.c (.s .z) (.c (.s .z) (.c (.s .z) (.c (.s (.s .z)) (.c (.s (.s .z)) .n))))))) ?_; refine At.H.tw 7 rfl (Y.load rfl rfl .z rfl rfl rfl) rfl rfl rfl (.c .z (.c .z (.c (.s .z) (.c (.s .z) (.c (.s .z) (.c (.s (.s .z)) (.c (.s (.s .z)) .n))))))) ?_; refine At.H.pw 9 rfl rfl rfl rfl rfl (.c .z (.c .z (.c (.s .z) (.c (.s .z) (.c (.s .z) (.c (.s (.s .z)) (.c (.s (.s .z)) .n))))))) ?_; refine At.H.tw 10 rfl (Y.load rfl rfl .z rfl rfl rfl) rfl rfl rfl (.c .z (.c .z (.c (.s .z) (.c (.s .z) (.c (.s .z) (.c (.s (.s .z)) (.c (.s (.s .z)) .n))))))) ?_; obtain ⟨t1953, hc1954, j⟩ := bbind j; obtain ⟨h2158, j⟩ := bnone j; refine At.H.joinK (X := (Option Addr) × Nat) (fun s_ => [(2, .pointer (some ⟨b267, 0, none⟩)), (3, .pointer (some ⟨b268, 0, none⟩)), (32, .slice A0_6 a0_6.length c0_6), (33, .int .i64 (a0_6.length : Int)), (34, .int .i64 x1718)]) (fun s_ => pt b268 (.cells [.int .i64 a0_2, .slice w1087 x1084.length w1088, .slice s_.1 ((x1712 ++ ([(⟨(gt a0_6 x1718).from_, t1953, (gt a0_6 x1718).to⟩ : Q0)] : List Q0)).length) s_.2, .slice A0_5 a0_5.length c0_5].toArray 26) :: row Q0.fl 35 s_.1 ((x1712 ++ ([(⟨(gt a0_6 x1718).from_, t1953, (gt a0_6 x1718).to⟩ : Q0)] : List Q0)).length) s_.2 (x1712 ++ ([(⟨(gt a0_6 x1718).from_, t1953, (gt a0_6 x1718).to⟩ : Q0)] : List Q0)) :: pt b1944 (.cells [.int .i64 ((gt a0_6 x1718).from_), .string ⟨((gt a0_6 x1718).action).toArray⟩, .int .i64 ((gt a0_6 x1718).to)].toArray 148) :: mapo Fl.bs.ov Fl.bool.ov b0_7 a0_7 :: pt b267 (.cells [.int .i64 0, .slice none 0 0, .slice none 0 0, .slice none 0 0].toArray 26) :: pt b0 (.cells [.slice A0_0 a0_0.length c0_0, optp p0_1, .int .i64 a0_2, w1089, w1717, .slice A0_5 a0_5.length c0_5, .slice A0_6 a0_6.length c0_6, .map (some b0_7)].toArray 114) :: optb (Ow.fl Q2.fl) 58 p0_1 a0_1 :: grow Q1.ow 37 A0_5 a0_5.length c0_5 a0_5 :: row Q4.fl 148 A0_6 a0_6.length c0_6 a0_6 :: Fr) (fun s_ => True) ?_ (fun J2157 => ?_)
       ·rintro ⟨w2155, w2156⟩ -
        ·refine At.ibn ?_; refine At.thn (At.region (At.run 2 rfl (At.nil ?_))); refine At.thaw th1952 ?_; refine At.drop (.s (.s (.s .z))) (At.f8 (At.f8 (At.f4 (At.f8 (At.f8 (At.f8 (At.f7 ?_))))))); refine At.f8 (At.f8 ?_); have j := bnx hf_ j; exact fun a w e hs => ⟨m1932, ((x1712 ++ ([(⟨(gt a0_6 x1718).from_, t1953, (gt a0_6 x1718).to⟩ : Q0)] : List Q0)), IntKind.i64.wrap (x1718 + 1), (x1712 ++ ([(⟨(gt a0_6 x1718).from_, t1953, (gt a0_6 x1718).to⟩ : Q0)] : List Q0)).length, w2155, w2156, w1717), hlt1934, ⟨j, rfl⟩, e.sub ⟨rfl, rfl, rfl, rfl, rfl, trivial⟩, hs⟩
       ·refine At.H.al [1, 5] (Q12 ?_ (Q12 ?_ Q14))
        ··refine At.HO.op rfl ?_
          refine At.y (Y.load rfl rfl (.s (.s .z)) rfl rfl rfl) rfl rfl rfl ?_; refine At.HO.back (.c .z (.c .z (.c (.s .z) (.c (.s .z) (.c (.s .z) (.c (.s (.s .z)) (.c (.s (.s .z)) .n))))))) ?_; refine At.H.al [5] (Q12 ?_ Q14)
          ··refine At.HO.op rfl ?_
            refine At.y (Y.load rfl rfl (.s (.s .z)) rfl rfl rfl) rfl rfl rfl ?_; refine At.HO.back (.c .z (.c .z (.c (.s .z) (.c (.s .z) (.c (.s .z) (.c (.s (.s .z)) (.c (.s (.s .z)) .n))))))) ?_; refine At.H.al [8] (Q12 ?_ Q14)
            ··refine At.HO.op rfl ?_
              refine At.call rfl Q23.callee rfl rfl rfl (Q23.spec _ _ w1087 x1084.length w1088 t1103 ((gt a0_6 x1718).action) hr1948 hn1949 hc1950 hc1954) ?_; rintro _ _ ⟨rfl, rfl⟩; refine At.HO.back (.c .z (.c .z (.c (.s .z) (.c (.s .z) (.c (.s .z) (.c (.s (.s .z)) (.c (.s (.s .z)) .n))))))) ?_; refine At.H.tw 11 rfl (Y.build (is := [0, 1, 2]) (xo := [.tmp 41, .tmp 46, .tmp 48]) (vs := [.int .i64 ((gt a0_6 x1718).from_), .int .i64 t1953, .int .i64 ((gt a0_6 x1718).to)]) (cs := [.int .i64 ((gt a0_6 x1718).from_), .int .i64 t1953, .int .i64 ((gt a0_6 x1718).to)]) rfl rfl rfl rfl rfl rfl) rfl rfl rfl (.c .z (.c .z (.c (.s .z) (.c (.s .z) (.c (.s .z) (.c (.s (.s .z)) (.c (.s (.s .z)) .n))))))) ?_; refine At.H.al [12] (Q12 ?_ Q14)
              ··refine At.HO.op rfl ?_
                refine At.lit rfl (xo := [.tmp 49]) (ys := ([(⟨(gt a0_6 x1718).from_, t1953, (gt a0_6 x1718).to⟩ : Q0)] : List Q0)) Q0.fl rfl rfl rfl rfl rfl rfl rfl rfl rfl rfl rfl (fun A2159 c2160 => ?_); refine At.HO.back (.c (.s .z) (.c (.s .z) (.c (.s (.s .z)) (.c (.s (.s .z)) (.c (.s (.s .z)) (.c (.s (.s (.s .z))) (.c (.s (.s (.s .z))) .n))))))) ?_; refine At.H.al [13] (Q12 ?_ Q14)
                ··refine At.HO.op rfl ?_
                  refine At.append rfl (.s (.s (.s (.s (.s (.s (.s .z))))))) (Src.own .z (by simp)) rfl rfl rfl rfl rfl rfl rfl rfl h2158 (by decide) rfl (fun A2162 c2163 => ?_); refine At.drop (.s .z) ?_; refine At.HO.back (.c (.s .z) (.c (.s .z) (.c (.s (.s .z)) (.c (.s (.s .z)) (.c (.s (.s .z)) (.c (.s (.s .z)) (.c (.s (.s .z)) .n))))))) ?_; refine At.H.pw 14 rfl rfl rfl rfl rfl (.c (.s .z) (.c (.s .z) (.c (.s (.s .z)) (.c (.s (.s .z)) (.c (.s (.s .z)) (.c (.s (.s .z)) (.c (.s (.s .z)) .n))))))) ?_; refine At.H.al [15] (Q12 ?_ Q14)
                  ··refine At.HO.op rfl ?_
                    refine At.store rfl rfl rfl rfl (.s (.s (.s .z))) rfl rfl rfl (.s (.s (.c .n))) ?_; refine At.HO.back (.c (.s (.s .z)) (.c (.s (.s .z)) (.c (.s (.s .z)) (.c (.s (.s .z)) (.c (.s (.s .z)) (.c (.s (.s .z)) (.c (.s (.s .z)) .n))))))) ?_; refine At.H.done (by kernel_rfl) ?_; exact At.of (J2157 (A2162, c2163) trivial) ⟨rfl, rfl, rfl, rfl, rfl, trivial⟩
        ··refine At.HO.op rfl ?_
          refine At.y (Y.load rfl rfl (.s (.s .z)) rfl rfl rfl) rfl rfl rfl ?_; refine At.HO.back (.c .z (.c .z (.c (.s .z) (.c (.s .z) (.c (.s .z) (.c (.s (.s .z)) (.c (.s (.s .z)) .n))))))) ?_; refine At.H.al [1, 8] (Q12 ?_ (Q12 ?_ Q14))
          ··refine At.HO.op rfl ?_
            refine At.y (Y.load rfl rfl (.s (.s .z)) rfl rfl rfl) rfl rfl rfl ?_; refine At.HO.back (.c .z (.c .z (.c (.s .z) (.c (.s .z) (.c (.s .z) (.c (.s (.s .z)) (.c (.s (.s .z)) .n))))))) ?_; refine At.H.al [8] (Q12 ?_ Q14)
            ··refine At.HO.op rfl ?_
              refine At.call rfl Q23.callee rfl rfl rfl (Q23.spec _ _ w1087 x1084.length w1088 t1103 ((gt a0_6 x1718).action) hr1948 hn1949 hc1950 hc1954) ?_; rintro _ _ ⟨rfl, rfl⟩; refine At.HO.back (.c .z (.c .z (.c (.s .z) (.c (.s .z) (.c (.s .z) (.c (.s (.s .z)) (.c (.s (.s .z)) .n))))))) ?_; refine At.H.tw 11 rfl (Y.build (is := [0, 1, 2]) (xo := [.tmp 41, .tmp 46, .tmp 48]) (vs := [.int .i64 ((gt a0_6 x1718).from_), .int .i64 t1953, .int .i64 ((gt a0_6 x1718).to)]) (cs := [.int .i64 ((gt a0_6 x1718).from_), .int .i64 t1953, .int .i64 ((gt a0_6 x1718).to)]) rfl rfl rfl rfl rfl rfl) rfl rfl rfl (.c .z (.c .z (.c (.s .z) (.c (.s .z) (.c (.s .z) (.c (.s (.s .z)) (.c (.s (.s .z)) .n))))))) ?_; refine At.H.al [12] (Q12 ?_ Q14)
              ··refine At.HO.op rfl ?_
                refine At.lit rfl (xo := [.tmp 49]) (ys := ([(⟨(gt a0_6 x1718).from_, t1953, (gt a0_6 x1718).to⟩ : Q0)] : List Q0)) Q0.fl rfl rfl rfl rfl rfl rfl rfl rfl rfl rfl rfl (fun A2164 c2165 => ?_); refine At.HO.back (.c (.s .z) (.c (.s .z) (.c (.s (.s .z)) (.c (.s (.s .z)) (.c (.s (.s .z)) (.c (.s (.s (.s .z))) (.c (.s (.s (.s .z))) .n))))))) ?_; refine At.H.al [13] (Q12 ?_ Q14)
                ··refine At.HO.op rfl ?_
                  refine At.append rfl (.s (.s (.s (.s (.s (.s (.s .z))))))) (Src.own .z (by simp)) rfl rfl rfl rfl rfl rfl rfl rfl h2158 (by decide) rfl (fun A2167 c2168 => ?_); refine At.drop (.s .z) ?_; refine At.HO.back (.c (.s .z) (.c (.s .z) (.c (.s (.s .z)) (.c (.s (.s .z)) (.c (.s (.s .z)) (.c (.s (.s .z)) (.c (.s (.s .z)) .n))))))) ?_; refine At.H.pw 14 rfl rfl rfl rfl rfl (.c (.s .z) (.c (.s .z) (.c (.s (.s .z)) (.c (.s (.s .z)) (.c (.s (.s .z)) (.c (.s (.s .z)) (.c (.s (.s .z)) .n))))))) ?_; refine At.H.al [15] (Q12 ?_ Q14)
                  ··refine At.HO.op rfl ?_
                    refine At.store rfl rfl rfl rfl (.s (.s (.s .z))) rfl rfl rfl (.s (.s (.c .n))) ?_; refine At.HO.back (.c (.s (.s .z)) (.c (.s (.s .z)) (.c (.s (.s .z)) (.c (.s (.s .z)) (.c (.s (.s .z)) (.c (.s (.s .z)) (.c (.s (.s .z)) .n))))))) ?_; refine At.H.done (by kernel_rfl) ?_; exact At.of (J2157 (A2167, c2168) trivial) ⟨rfl, rfl, rfl, rfl, rfl, trivial⟩
          ··refine At.HO.op rfl ?_
            refine At.call rfl Q23.callee rfl rfl rfl (Q23.spec _ _ w1087 x1084.length w1088 t1103 ((gt a0_6 x1718).action) hr1948 hn1949 hc1950 hc1954) ?_; rintro _ _ ⟨rfl, rfl⟩; refine At.HO.back (.c .z (.c .z (.c (.s .z) (.c (.s .z) (.c (.s .z) (.c (.s (.s .z)) (.c (.s (.s .z)) .n))))))) ?_; refine At.H.tw 11 rfl (Y.build (is := [0, 1, 2]) (xo := [.tmp 41, .tmp 46, .tmp 48]) (vs := [.int .i64 ((gt a0_6 x1718).from_), .int .i64 t1953, .int .i64 ((gt a0_6 x1718).to)]) (cs := [.int .i64 ((gt a0_6 x1718).from_), .int .i64 t1953, .int .i64 ((gt a0_6 x1718).to)]) rfl rfl rfl rfl rfl rfl) rfl rfl rfl (.c .z (.c .z (.c (.s .z) (.c (.s .z) (.c (.s .z) (.c (.s (.s .z)) (.c (.s (.s .z)) .n))))))) ?_; refine At.H.al [1, 12] (Q12 ?_ (Q12 ?_ Q14))
            ··refine At.HO.op rfl ?_
              refine At.y (Y.load rfl rfl (.s (.s .z)) rfl rfl rfl) rfl rfl rfl ?_; refine At.HO.back (.c .z (.c .z (.c (.s .z) (.c (.s .z) (.c (.s .z) (.c (.s (.s .z)) (.c (.s (.s .z)) .n))))))) ?_; refine At.H.al [12] (Q12 ?_ Q14)
              ··refine At.HO.op rfl ?_
                refine At.lit rfl (xo := [.tmp 49]) (ys := ([(⟨(gt a0_6 x1718).from_, t1953, (gt a0_6 x1718).to⟩ : Q0)] : List Q0)) Q0.fl rfl rfl rfl rfl rfl rfl rfl rfl rfl rfl rfl (fun A2169 c2170 => ?_); refine At.HO.back (.c (.s .z) (.c (.s .z) (.c (.s (.s .z)) (.c (.s (.s .z)) (.c (.s (.s .z)) (.c (.s (.s (.s .z))) (.c (.s (.s (.s .z))) .n))))))) ?_; refine At.H.al [13] (Q12 ?_ Q14)
                ··refine At.HO.op rfl ?_
                  refine At.append rfl (.s (.s (.s (.s (.s (.s (.s .z))))))) (Src.own .z (by simp)) rfl rfl rfl rfl rfl rfl rfl rfl h2158 (by decide) rfl (fun A2172 c2173 => ?_); refine At.drop (.s .z) ?_; refine At.HO.back (.c (.s .z) (.c (.s .z) (.c (.s (.s .z)) (.c (.s (.s .z)) (.c (.s (.s .z)) (.c (.s (.s .z)) (.c (.s (.s .z)) .n))))))) ?_; refine At.H.pw 14 rfl rfl rfl rfl rfl (.c (.s .z) (.c (.s .z) (.c (.s (.s .z)) (.c (.s (.s .z)) (.c (.s (.s .z)) (.c (.s (.s .z)) (.c (.s (.s .z)) .n))))))) ?_; refine At.H.al [15] (Q12 ?_ Q14)
                  ··refine At.HO.op rfl ?_
                    refine At.store rfl rfl rfl rfl (.s (.s (.s .z))) rfl rfl rfl (.s (.s (.c .n))) ?_; refine At.HO.back (.c (.s (.s .z)) (.c (.s (.s .z)) (.c (.s (.s .z)) (.c (.s (.s .z)) (.c (.s (.s .z)) (.c (.s (.s .z)) (.c (.s (.s .z)) .n))))))) ?_; refine At.H.done (by kernel_rfl) ?_; exact At.of (J2157 (A2172, c2173) trivial) ⟨rfl, rfl, rfl, rfl, rfl, trivial⟩
            ··refine At.HO.op rfl ?_
              refine At.lit rfl (xo := [.tmp 49]) (ys := ([(⟨(gt a0_6 x1718).from_, t1953, (gt a0_6 x1718).to⟩ : Q0)] : List Q0)) Q0.fl rfl rfl rfl rfl rfl rfl rfl rfl rfl rfl rfl (fun A2174 c2175 => ?_); refine At.HO.back (.c (.s .z) (.c (.s .z) (.c (.s (.s .z)) (.c (.s (.s .z)) (.c (.s (.s .z)) (.c (.s (.s (.s .z))) (.c (.s (.s (.s .z))) .n))))))) ?_; refine At.H.al [1] (Q12 ?_ Q14)
              ··refine At.HO.op rfl ?_
                refine At.y (Y.load rfl rfl (.s (.s (.s .z))) rfl rfl rfl) rfl rfl rfl ?_; refine At.HO.back (.c (.s .z) (.c (.s .z) (.c (.s (.s .z)) (.c (.s (.s .z)) (.c (.s (.s .z)) (.c (.s (.s (.s .z))) (.c (.s (.s (.s .z))) .n))))))) ?_; refine At.H.al [13] (Q12 ?_ Q14)
                ··refine At.HO.op rfl ?_
                  refine At.append rfl (.s (.s (.s (.s (.s (.s (.s .z))))))) (Src.own .z (by simp)) rfl rfl rfl rfl rfl rfl rfl rfl h2158 (by decide) rfl (fun A2177 c2178 => ?_); refine At.drop (.s .z) ?_; refine At.HO.back (.c (.s .z) (.c (.s .z) (.c (.s (.s .z)) (.c (.s (.s .z)) (.c (.s (.s .z)) (.c (.s (.s .z)) (.c (.s (.s .z)) .n))))))) ?_; refine At.H.pw 14 rfl rfl rfl rfl rfl (.c (.s .z) (.c (.s .z) (.c (.s (.s .z)) (.c (.s (.s .z)) (.c (.s (.s .z)) (.c (.s (.s .z)) (.c (.s (.s .z)) .n))))))) ?_; refine At.H.al [15] (Q12 ?_ Q14)
                  ··refine At.HO.op rfl ?_
                    refine At.store rfl rfl rfl rfl (.s (.s (.s .z))) rfl rfl rfl (.s (.s (.c .n))) ?_; refine At.HO.back (.c (.s (.s .z)) (.c (.s (.s .z)) (.c (.s (.s .z)) (.c (.s (.s .z)) (.c (.s (.s .z)) (.c (.s (.s .z)) (.c (.s (.s .z)) .n))))))) ?_; refine At.H.done (by kernel_rfl) ?_; exact At.of (J2157 (A2177, c2178) trivial) ⟨rfl, rfl, rfl, rfl, rfl, trivial⟩
     ··refine At.condF rfl (decide_eq_false h1942) ?_
       refine At.exit ?_; refine At.the ?_; refine At.the ?_; exact fun a w e hs => J1935 (x1712, x1712.length, w1715, w1716, w1717) ⟨(bdn j ho1930), rfl⟩ a w (e.sub ⟨rfl, rfl, trivial⟩) hs
 ·rintro m1093 ⟨x878, w877, w879, w881, w882, w883⟩ ⟨⟨hI1094, hm1095⟩, hn880⟩; obtain rfl : x878.length = w879 := hn880
  ·refine At.seq (At.region ?_); refine At.nextMap rfl rfl .z rfl (fun hp1099 => ?_) (fun z1097 tl1098 hp1099 => ?_)
   ·have j := foldO_end hall1092 hI1094 hp1099; refine At.run 1 rfl (At.nil (At.thn (At.seq ?_))); refine At.condF rfl rfl ?_; refine At.exit ?_; refine At.the ?_; refine At.the ?_; refine At.rngEnd .z ?_; exact fun a w e hs => J1096 (x878, x878.length, w881, w882, w883) ⟨j, rfl⟩ a w (e.sub ⟨rfl, rfl, rfl, trivial⟩) hs
   ·obtain ⟨t1100, hs1101, hI1102⟩ := foldO_go hall1092 hI1094 hp1099; have j := brun (show Q18.l0b  z1097 x878 = some t1100 from hs1101); unfold Q18.l0b at j; refine At.run 1 rfl (At.nil (At.thn (At.seq ?_))); refine At.condT rfl rfl ?_; refine At.skip (At.thn ?_); refine At.block ?_; refine At.seq (At.region ?_); refine At.y (Y.entry .z rfl) rfl rfl rfl ?_; refine At.run 2 rfl (At.nil (At.thn (At.region (At.run 1 rfl (At.y (Y.load rfl rfl (.s .z) rfl rfl rfl) rfl rfl rfl (At.run 1 rfl ?_)))))); refine At.lit rfl (xo := [.tmp 22]) (ys := ([z1097.1] : List Bs)) Fl.bs rfl rfl rfl rfl rfl rfl rfl rfl rfl rfl rfl (fun A2179 c2180 => ?_); obtain ⟨h2182, j⟩ := bnone j; refine At.append rfl (.s (.s (.s (.s (.s (.s .z)))))) (Src.own .z (by simp)) rfl rfl rfl rfl rfl rfl rfl rfl h2182 (by decide) rfl (fun A2183 c2184 => ?_); refine At.drop (.s .z) (At.run 1 rfl ?_); refine At.store rfl rfl rfl rfl (.s (.s .z)) rfl rfl rfl (.s (.c .n)) ?_; refine At.nil ?_; refine At.ibn ?_; refine At.f8 (At.f8 (At.f8 (At.f4 (At.f8 (At.f8 (At.f8 (At.f7 ?_))))))); refine At.f8 ?_; obtain rfl := bret j; exact fun a w e hs => ⟨tl1098.length, ((x878 ++ ([z1097.1] : List Bs)), (w877 ++ [z1097]), (x878 ++ ([z1097.1] : List Bs)).length, A2183, c2184, w883), (rng_lt hp1099 hm1095).1, ⟨⟨hI1102, (rng_lt hp1099 hm1095).2⟩, rfl⟩, e.sub ⟨rfl, rfl, rfl, rfl, trivial⟩, hs⟩

noncomputable def Q33.l0b (t307 : (Option Q2) × (List Q3) × Int) (x938 : Option Q2) (x939 : List Q1) (x944 : List Q4) (x949 : List (Bs × Bool)) (x953 : List Q3) : Option (((Option Q2) × (List Q1) × (List Q4) × (List (Bs × Bool)) × (List Q3)) ⊕ (((Option Q2) × (List Q1) × (List Q4) × (List (Bs × Bool)) × (List Q3)) ⊕ ((Option Q2) × (List Bs) × (List Q0) × (List Q1) × Int))) :=
 if x938.isNone = true then
 (Q22.f x953 x938 t307.2.2 ([] : List Bs) ([] : List Q0) x939 x944 x949).bind fun t1207 =>
 if (0 : Int) ≤ 0 ∧ 0 < (t1207.length : Int) then
 if (gt t1207 0).Kind = 0 then
 dn (.inl (x938, x939, x944, x949, t1207))
 else
 (Q40.f t1207 x938 t307.2.2 ([] : List Bs) ([] : List Q0) x939 x944 x949 2).bind fun t1217 =>
 if t1217.1.isNone = true then
 if bseq t1217.2.2.2.2.1 ([101, 100, 103, 101] : Bs) = true then
 (Q83.f t1217.2.1 t1217.1 t307.2.2 ([] : List Bs) ([] : List Q0) x939 x944 x949 t1217.2.2.1 t1217.2.2.2.1 t1217.2.2.2.2.1 t1217.2.2.2.2.2).bind fun t1230 =>
 nx (t1230.2.2.1, x939, t1230.1, t1230.2.1, t1230.2.2.2)
 else
 if bseq t1217.2.2.2.2.1 ([109, 97, 114, 107] : Bs) = true then
 (Q35.f t1217.2.1 t1217.1 t307.2.2 ([] : List Bs) ([] : List Q0) x939 x944 x949).bind fun t1245 =>
 nx (t1245.2.1, t1245.1, x944, x949, t1245.2.2)
 else
 (Q11.f t1217.2.1 t1217.1 t307.2.2 ([] : List Bs) ([] : List Q0) x939 x944 x949 t1217.2.2.1 t1217.2.2.2.1 t1217.2.2.2.2.1 t1217.2.2.2.2.2 7).bind fun t1259 =>
 nx (t1259, x939, x944, x949, t1217.2.1)
 else
 nx (t1217.1, x939, x944, x949, t1217.2.1)
 else none
 else
 dn (.inl (x938, x939, x944, x949, x953))
noncomputable def Q33.l0 (t307 : (Option Q2) × (List Q3) × Int) (x938 : Option Q2) (x939 : List Q1) (x944 : List Q4) (x949 : List (Bs × Bool)) (x953 : List Q3) : Option (((Option Q2) × (List Q1) × (List Q4) × (List (Bs × Bool)) × (List Q3)) ⊕ ((Option Q2) × (List Bs) × (List Q0) × (List Q1) × Int)) := iter (fun t_ : (Option Q2) × (List Q1) × (List Q4) × (List (Bs × Bool)) × (List Q3) => Q33.l0b t307 t_.1 t_.2.1 t_.2.2.1 t_.2.2.2.1 t_.2.2.2.2) (x938, x939, x944, x949, x953)
noncomputable def Q33.f (a0 : Bs) : Option ((Option Q2) × (List Bs) × (List Q0) × (List Q1) × Int) :=
 (Q37.f a0).bind fun t284 =>
 if t284.1.isNone = true then
 (Q74.f t284.2 (none : Option Q2) 0 ([] : List Bs) ([] : List Q0) ([] : List Q1) ([] : List Q4) ([] : List (Bs × Bool))).bind fun t307 =>
 jn (Q33.l0 t307 t307.1 ([] : List Q1) ([] : List Q4) ([] : List (Bs × Bool)) t307.2.1) (fun (s_ : (Option Q2) × (List Q1) × (List Q4) × (List (Bs × Bool)) × (List Q3)) =>
 if s_.1.isNone = true then
 (Q18.f s_.2.2.2.2 s_.1 t307.2.2 ([] : List Bs) ([] : List Q0) s_.2.1 s_.2.2.1 s_.2.2.2.1).bind fun t1189 =>
 some (none, t1189.2.2.1, t1189.2.1, t1189.1, t1189.2.2.2)
 else
 some ((some (⟨(s_.1.getD default).At, (s_.1.getD default).Err⟩ : Q2)), ([] : List Bs), ([] : List Q0), ([] : List Q1), 0))
 else
 some (t284.1, ([] : List Bs), ([] : List Q0), ([] : List Q1), 0)
theorem Q33.callee : Callee Tryz.prog 30 := ⟨_, Tryz.func30, by kernel_rfl, by kernel_rfl⟩
theorem Q33.spec (R : Res) (Fr : List HProp)  (a0 : Bs)  {r : (Option Q2) × (List Bs) × (List Q0) × (List Q1) × Int} (j : Q33.f a0 = some r) :
 Spec Tryz.prog 30 [.string ⟨(a0).toArray⟩] R (Fr) (fun v l' => ∃ (w255 : Option Nat) (w264 : Nat) (w266 : Option Addr) (w267 : Nat) (w269 : Nat) (w271 : Option Addr) (w272 : Nat) (w274 : Nat) (w276 : Option Addr) (w277 : Nat), v = .tuple #[.agg #[.int .i64 r.2.2.2.2, .slice w266 w264 w267, .slice w271 w269 w272, .slice w276 w274 w277], opti 111 w255] ∧ row Fl.bs 9 w266 w264 w267 r.2.1 :: row Q0.fl 35 w271 w269 w272 r.2.2.1 :: grow Q1.ow 37 w276 w274 w277 r.2.2.2.1 :: optb (Ow.fl Q2.fl) 58 w255 r.1 :: Fr = l' ∧ r.2.1.length = w264 ∧ r.2.2.1.length = w269 ∧ r.2.2.2.1.length = w274) := by
 refine Spec.of Tryz.func30 rfl rfl ?_; unfold Q33.f at j; have j := brun j; refine At.seq (At.region ?_); refine At.alloc rfl rfl rfl (fun b283 => ?_); refine At.run 1 rfl (At.nil (At.thn (At.seq (At.region (At.run 1 rfl ?_))))); obtain ⟨t284, hc285, j⟩ := bbind j; refine At.call rfl Q37.callee rfl rfl rfl (Q37.spec _ _  a0  hc285) ?_; rintro _ _ ⟨w286, w287, w288, w289, rfl, rfl, rfl⟩; refine At.run 5 rfl (At.nil (At.thn (At.seq (At.seq (At.region (At.run 1 rfl ?_)))))); refine At.y (Y.neOptI (.s .z) rfl rfl rfl) rfl rfl rfl ?_; refine At.nil (At.thn ?_); rcases bite j with ⟨h293, j⟩ | ⟨h293, j⟩
 ··refine At.condF rfl (nf h293) ?_
   refine At.skip (At.thn (At.seq (At.region (At.run 1 rfl ?_)))); refine At.makeMap Fl.bs.ov Fl.bool.ov rfl rfl (fun b294 => ?_); refine At.y (Y.build (is := [0, 4]) (xo := [.tmp 17, .tmp 18]) (vs := [.slice w288 t284.2.length w289, .map (some b294)]) (cs := [.slice w288 t284.2.length w289, .pointer none, .int .i64 0, .slice none 0 0, .slice none 0 0, .slice none 0 0, .slice none 0 0, .map (some b294)]) rfl rfl rfl rfl rfl rfl) rfl rfl rfl ?_; refine At.box rfl rfl (cs := [.slice w288 t284.2.length w289, .pointer none, .int .i64 0, .slice none 0 0, .slice none 0 0, .slice none 0 0, .slice none 0 0, .map (some b294)]) rfl rfl (fun b295 => ?_); refine At.run 1 rfl (At.nil (At.thn (At.seq (At.region (At.run 1 rfl ?_))))); refine At.optNone (Ow.fl Q2.fl) 58 ?_; refine At.nilRow Fl.bs 9 ?_; refine At.nilRow Q0.fl 35 ?_; refine At.nilGrow Q1.ow 37 ?_; refine At.nilRow Q4.fl 148 ?_; refine At.freeze (.s (.s (.s (.s (.s (.s (.s .z))))))) fun R301 hr302 hn303 hc304 hs305 th306 => ?_; refine At.f6 (At.f1 (At.f2 (At.f3 (At.f4 (At.f5 (At.f6 ?_)))))); obtain ⟨t307, hc308, j⟩ := bbind j; refine At.call rfl Q74.callee rfl rfl rfl (Q74.spec _ _ b295 w288 t284.2.length w289 none none 0 0 none 0 0 none 0 0 none 0 0 b294 t284.2 (none : Option Q2) 0 ([] : List Bs) ([] : List Q0) ([] : List Q1) ([] : List Q4) ([] : List (Bs × Bool)) hr302 hn303 hc304 rfl rfl rfl rfl hc308) ?_; rintro _ _ ⟨w309, w310, w311, w312, rfl, rfl, hr313, rfl, hc315⟩; refine At.nil (At.thn (At.seq ?_)); refine At.block ?_; obtain ⟨G1177, hl1178, hr1179, j⟩ := bjoin j; obtain ⟨o1180, hlo1181, ho1182⟩ := bsome j; clear j; unfold Q33.l0 at hlo1181; obtain ⟨m1183, hit1185⟩ := Q17.1 hlo1181; clear hlo1181; refine At.loopJ (X := (Option Q2) × (List Q1) × (List Q4) × (List (Bs × Bool)) × (List Q3) × (Option Nat) × Nat × (Option Addr) × Nat × Nat × (Option Addr) × Nat × (Option Addr) × Nat × Nat) (Y := (Option Q2) × (List Q1) × (List Q4) × (List (Bs × Bool)) × (List Q3) × (Option Nat) × Nat × (Option Addr) × Nat × Nat × (Option Addr) × Nat × (Option Addr) × Nat × Nat) (e0 := 0) (fun s_ => [(2, .pointer (some ⟨b283, 0, none⟩)), (6, .pointer (some ⟨b295, 0, none⟩))]) (fun s_ => optb (Ow.fl Q2.fl) 58 s_.2.2.2.2.2.1 s_.1 :: pt b295 (.cells [.slice (d8 s_).2.2.2.2.1 (d8 s_).2.2.2.2.2.1 (d8 s_).2.2.2.2.2.2, optp s_.2.2.2.2.2.1, .int .i64 t307.2.2, .slice none 0 0, .slice none 0 0, .slice s_.2.2.2.2.2.2.2.1 s_.2.2.2.2.2.2.1 (d8 s_).1, .slice (d8 s_).2.2.1 (d8 s_).2.1 (d8 s_).2.2.2.1, .map (some b294)].toArray 114) :: row Fl.bs 9 none 0 0 ([] : List Bs) :: row Q0.fl 35 none 0 0 ([] : List Q0) :: grow Q1.ow 37 s_.2.2.2.2.2.2.2.1 s_.2.2.2.2.2.2.1 (d8 s_).1 s_.2.1 :: row Q4.fl 148 (d8 s_).2.2.1 (d8 s_).2.1 (d8 s_).2.2.2.1 s_.2.2.1 :: mapo Fl.bs.ov Fl.bool.ov b294 s_.2.2.2.1 :: optb (Ow.fl Q2.fl) 58 w286 t284.1 :: pt b283 (.cells [.int .i64 0, .slice none 0 0, .slice none 0 0, .slice none 0 0].toArray 26) :: Fr) (fun m_ => fun s_ => iterN (fun t_ : (Option Q2) × (List Q1) × (List Q4) × (List (Bs × Bool)) × (List Q3) => Q33.l0b t307 t_.1 t_.2.1 t_.2.2.1 t_.2.2.2.1 t_.2.2.2.2) m_ (s_.1, s_.2.1, s_.2.2.1, s_.2.2.2.1, s_.2.2.2.2.1) = some o1180 ∧ s_.2.1.length = s_.2.2.2.2.2.2.1 ∧ s_.2.2.1.length = (d8 s_).2.1 ∧ RdS Q3.fl.rep R301.heap (d8 s_).2.2.2.2.1 s_.2.2.2.2.1 ∧ s_.2.2.2.2.1.length = (d8 s_).2.2.2.2.2.1 ∧ (d8 s_).2.2.2.2.2.1 ≤ (d8 s_).2.2.2.2.2.2) m1183 (t307.1, ([] : List Q1), ([] : List Q4), ([] : List (Bs × Bool)), t307.2.1, w309, 0, none, 0, 0, none, 0, w310, t307.2.1.length, w312) ⟨hit1185, rfl, rfl, hr313, rfl, hc315⟩ (fun s_ => [(2, .pointer (some ⟨b283, 0, none⟩)), (6, .pointer (some ⟨b295, 0, none⟩))]) (fun s_ => pt b295 (.cells [.slice (d8 s_).2.2.2.2.1 (d8 s_).2.2.2.2.2.1 (d8 s_).2.2.2.2.2.2, optp s_.2.2.2.2.2.1, .int .i64 t307.2.2, .slice none 0 0, .slice none 0 0, .slice s_.2.2.2.2.2.2.2.1 s_.2.2.2.2.2.2.1 (d8 s_).1, .slice (d8 s_).2.2.1 (d8 s_).2.1 (d8 s_).2.2.2.1, .map (some b294)].toArray 114) :: optb (Ow.fl Q2.fl) 58 s_.2.2.2.2.2.1 s_.1 :: row Fl.bs 9 none 0 0 ([] : List Bs) :: row Q0.fl 35 none 0 0 ([] : List Q0) :: grow Q1.ow 37 s_.2.2.2.2.2.2.2.1 s_.2.2.2.2.2.2.1 (d8 s_).1 s_.2.1 :: row Q4.fl 148 (d8 s_).2.2.1 (d8 s_).2.1 (d8 s_).2.2.2.1 s_.2.2.1 :: mapo Fl.bs.ov Fl.bool.ov b294 s_.2.2.2.1 :: optb (Ow.fl Q2.fl) 58 w286 t284.1 :: pt b283 (.cells [.int .i64 0, .slice none 0 0, .slice none 0 0, .slice none 0 0].toArray 26) :: Fr) (fun s_ => G1177 (.inl (s_.1, s_.2.1, s_.2.2.1, s_.2.2.2.1, s_.2.2.2.2.1)) = some r ∧ s_.2.1.length = s_.2.2.2.2.2.2.1 ∧ s_.2.2.1.length = (d8 s_).2.1 ∧ RdS Q3.fl.rep R301.heap (d8 s_).2.2.2.2.1 s_.2.2.2.2.1 ∧ s_.2.2.2.2.1.length = (d8 s_).2.2.2.2.2.1 ∧ (d8 s_).2.2.2.2.2.1 ≤ (d8 s_).2.2.2.2.2.2) (fun a w e hs => ⟨e.sub ⟨rfl, rfl, trivial⟩, (by exact hs)⟩) ?_ (fun J1187 => ?_)
   ·rintro ⟨x1158, x1159, x1164, x1169, x1173, w1157, w1160, w1162, w1163, w1165, w1167, w1168, w1170, w1171, w1172⟩ ⟨j, hn1161, hn1166, hr1174, hn1175, hc1176⟩; obtain rfl : x1159.length = w1160 := hn1161; obtain rfl : x1164.length = w1165 := hn1166; obtain rfl : x1173.length = w1171 := hn1175; have j := (hl1178 _).symm.trans j
    ·refine At.ibx ?_; refine At.thn (At.seq (At.seq (At.region (At.run 3 rfl (At.y (Y.load rfl rfl .z rfl rfl rfl) rfl rfl rfl ?_))))); refine At.y (Y.neOpt (.s .z) rfl rfl rfl rfl) rfl rfl rfl ?_; refine At.nil (At.thn ?_); rcases bite j with ⟨h1188, j⟩ | ⟨h1188, j⟩
     ··refine At.condF rfl (nf h1188) ?_
       refine At.skip (At.thn (At.seq (At.region (At.run 1 rfl ?_)))); obtain ⟨t1189, hc1190, j⟩ := bbind j; refine At.call rfl Q18.callee rfl rfl rfl (Q18.spec _ _ b295 w1170 x1173.length w1172 w1157 none 0 0 none 0 0 w1162 x1159.length w1163 w1167 x1164.length w1168 b294 x1173 x1158 t307.2.2 ([] : List Bs) ([] : List Q0) x1159 x1164 x1169 hr1174 rfl hc1176 rfl rfl rfl rfl hc1190) ?_; rintro _ _ ⟨w1191, w1192, w1193, w1194, w1195, w1196, w1197, w1198, rfl, rfl, rfl, rfl⟩; refine At.store rfl rfl rfl rfl (.s (.s (.s (.s (.s (.s (.s (.s .z)))))))) rfl rfl rfl (.c (.c (.c (.c .n)))) ?_; refine At.run 1 rfl (At.nil (At.thn (At.ret ?_))); refine At.thaw th306 ?_; refine At.optNone (Ow.fl Q2.fl) 58 ?_; refine At.growLen (.s (.s (.s (.s (.s (.s (.s .z))))))) fun hn1201 _ => ?_; refine At.resM (.inl rfl) rfl (RV.cell rfl rfl (.s (.s .z)) rfl rfl rfl (RV.tmp rfl RV.nil)) ?_; refine At.drop (.s .z) (At.drop (.s .z) (At.drop (.s .z) (At.drop (.s .z) (At.drop (.s (.s (.s (.s .z)))) (At.drop (.s (.s (.s (.s .z)))) (At.drop (.s (.s (.s (.s .z)))) (At.f3 ?_))))))); refine At.f3 (At.f3 ?_); cases bret j; exact fun a w e hs => ⟨_, ⟨none, t1189.2.2.1.length, w1195, w1196, t1189.2.1.length, w1192, w1193, x1159.length, w1162, w1163, rfl, rfl, rfl, rfl, hn1201⟩, hs⟩
     ··refine At.condT rfl (nt (bn h1188)) ?_
       refine At.seq ?_; refine At.optOpen (.s .z) (bn h1188) (fun b1202 hb1203 cs1204 => ?_); have hq1205 := j; subst hb1203; have j := hq1205; refine At.ownFl (.s .z) ?_; rintro rfl; refine At.held [pt b1202 (.cells [.int .i64 ((x1158.getD default).At), .int .i64 ((x1158.getD default).Err)].toArray 58), pt b295 (.cells [.slice w1170 x1173.length w1172, .pointer (some ⟨b1202, 0, none⟩), .int .i64 t307.2.2, .slice none 0 0, .slice none 0 0, .slice w1162 x1159.length w1163, .slice w1167 x1164.length w1168, .map (some b294)].toArray 114), row Fl.bs 9 none 0 0 ([] : List Bs), row Q0.fl 35 none 0 0 ([] : List Q0), grow Q1.ow 37 w1162 x1159.length w1163 x1159, row Q4.fl 148 w1167 x1164.length w1168 x1164, mapo Fl.bs.ov Fl.bool.ov b294 x1169, optb (Ow.fl Q2.fl) 58 w286 t284.1, pt b283 (.cells [.int .i64 0, .slice none 0 0, .slice none 0 0, .slice none 0 0].toArray 26)] 8 rfl ?_; refine At.H.tw 0 rfl (Y.build (is := []) (xo := []) (vs := []) (cs := [.int .i64 0, .slice none 0 0, .slice none 0 0, .slice none 0 0]) rfl rfl rfl rfl rfl rfl) rfl rfl rfl (.c .z (.c .z (.c .z (.c .z (.c .z (.c .z (.c .z (.c .z (.c .z .n))))))))) ?_; refine At.H.pw 1 rfl rfl rfl rfl rfl (.c .z (.c .z (.c .z (.c .z (.c .z (.c .z (.c .z (.c .z (.c .z .n))))))))) ?_; refine At.H.pw 2 rfl rfl rfl rfl rfl (.c .z (.c .z (.c .z (.c .z (.c .z (.c .z (.c .z (.c .z (.c .z .n))))))))) ?_; refine At.H.pw 3 rfl rfl rfl rfl rfl (.c .z (.c .z (.c .z (.c .z (.c .z (.c .z (.c .z (.c .z (.c .z .n))))))))) ?_; refine At.H.tw 4 rfl (Y.load rfl rfl (.s .z) rfl rfl rfl) rfl rfl rfl (.c .z (.c .z (.c .z (.c .z (.c .z (.c .z (.c .z (.c .z (.c .z .n))))))))) ?_; refine At.H.pw 5 rfl rfl rfl rfl rfl (.c .z (.c .z (.c .z (.c .z (.c .z (.c .z (.c .z (.c .z (.c .z .n))))))))) ?_; refine At.H.al [6] (Q12 ?_ Q14)
       ··refine At.HO.op rfl ?_
         refine At.store rfl rfl rfl rfl (.s (.s (.s (.s (.s (.s (.s (.s .z)))))))) rfl rfl rfl (.c (.c (.c (.c .n)))) ?_; refine At.HO.back (.c (.s .z) (.c (.s .z) (.c (.s .z) (.c (.s .z) (.c (.s .z) (.c (.s .z) (.c (.s .z) (.c (.s .z) (.c .z .n))))))))) ?_; refine At.H.pw 7 rfl rfl rfl rfl rfl (.c (.s .z) (.c (.s .z) (.c (.s .z) (.c (.s .z) (.c (.s .z) (.c (.s .z) (.c (.s .z) (.c (.s .z) (.c .z .n))))))))) ?_; refine At.H.done (by kernel_rfl) ?_; refine At.thn (At.ret (At.thr ?_)); refine At.thaw th306 ?_; refine At.f2 ?_; refine At.optSome (x := (⟨(x1158.getD default).At, (x1158.getD default).Err⟩ : Q2)) (Ent.fl Q2.fl (x := (⟨(x1158.getD default).At, (x1158.getD default).Err⟩ : Q2)) rfl) ?_; refine At.nilRow Fl.bs 9 ?_; refine At.nilRow Q0.fl 35 ?_; refine At.nilGrow Q1.ow 37 ?_; refine At.resM (.inl rfl) rfl (RV.cell rfl rfl (.s (.s (.s (.s (.s .z))))) rfl rfl rfl (RV.tmp rfl RV.nil)) ?_; refine At.drop (.s (.s (.s (.s .z)))) (At.drop (.s (.s (.s (.s .z)))) (At.drop (.s (.s (.s (.s .z)))) (At.drop (.s (.s (.s (.s .z)))) (At.drop (.s (.s (.s (.s .z)))) (At.drop (.s (.s (.s (.s .z)))) (At.drop (.s (.s (.s (.s .z)))) (At.drop (.s (.s (.s (.s .z)))) ?_))))))); refine At.drop (.s (.s (.s (.s .z)))) (At.f3 (At.f1 (At.f2 (At.f3 ?_)))); cases bret j; exact fun a w e hs => ⟨_, ⟨(some b1202), 0, none, 0, 0, none, 0, 0, none, 0, rfl, rfl, rfl, rfl, rfl⟩, hs⟩
   ·clear hit1185 m1183; rintro m1183 ⟨x938, x939, x944, x949, x953, w937, w940, w942, w943, w945, w947, w948, w950, w951, w952⟩ ⟨hit1185, hn941, hn946, hr954, hn955, hc956⟩; obtain rfl : x939.length = w940 := hn941; obtain rfl : x944.length = w945 := hn946; obtain rfl : x953.length = w951 := hn955; obtain ⟨m1184, f_, hlt1186, hf_, j⟩ := bit hit1185; clear hit1185; have j : (Q33.l0b t307 x938 x939 x944 x949 x953).bind _ = some o1180 := j; unfold Q33.l0b at j
    ·refine At.seq (At.seq (At.region (At.run 3 rfl (At.y (Y.load rfl rfl (.s .z) rfl rfl rfl) rfl rfl rfl ?_)))); refine At.y (Y.eqOpt .z rfl rfl rfl rfl) rfl rfl rfl ?_; refine At.nil (At.thn ?_); rcases bite j with ⟨h1206, j⟩ | ⟨h1206, j⟩
     ··refine At.condT rfl h1206 ?_
       refine At.skip (At.thn ?_); refine At.block ?_; refine At.seq (At.region (At.run 1 rfl (At.f6 (At.f6 (At.f6 (At.f6 (At.f6 ?_))))))); refine At.f5 (At.f6 ?_); obtain ⟨t1207, hc1208, j⟩ := bbind j; refine At.call rfl Q22.callee rfl rfl rfl (Q22.spec _ _ b295 w950 x953.length w952 w937 none 0 0 none 0 0 w942 x939.length w943 w947 x944.length w948 b294 x953 x938 t307.2.2 ([] : List Bs) ([] : List Q0) x939 x944 x949 hr954 rfl hc956 rfl rfl rfl rfl hc1208) ?_; rintro _ _ ⟨w1209, w1210, w1211, rfl, rfl, hr1212, rfl, hc1214⟩; refine At.nil (At.thn (At.seq (At.seq (At.region (At.run 3 rfl (At.y (Y.load rfl rfl .z rfl rfl rfl) rfl rfl rfl ?_)))))); obtain ⟨h1215, j⟩ := bnone j; refine At.y (Y.ixRd hr1212 rfl rfl rfl rfl rfl rfl rfl h1215.1 h1215.2) rfl rfl rfl ?_; refine At.y (Y.fa (RdS.some_ hr1212 rfl h1215.1 h1215.2) rfl rfl rfl rfl rfl rfl) rfl rfl rfl ?_; refine At.y (Y.ldFl hr1212 rfl (q := 0) rfl rfl h1215.1 h1215.2 rfl rfl rfl) rfl rfl rfl (At.run 1 rfl (At.nil (At.thn ?_))); rcases bite j with ⟨h1216, j⟩ | ⟨h1216, j⟩
       ··refine At.condT rfl (decide_eq_true h1216) ?_
         refine At.exit ?_; refine At.the ?_; refine At.ibo rfl ?_; refine At.the ?_; exact fun a w e hs => J1187 (x938, x939, x944, x949, t1207, w937, x939.length, w942, w943, x944.length, w947, w948, w1209, t1207.length, w1211) ⟨(bdn j ho1182), rfl, rfl, hr1212, rfl, hc1214⟩ a w (e.sub ⟨rfl, rfl, trivial⟩) hs
       ··refine At.condF rfl (decide_eq_false h1216) ?_
         refine At.skip (At.thn (At.seq (At.region (At.run 1 rfl ?_)))); obtain ⟨t1217, hc1218, j⟩ := bbind j; refine At.call rfl Q40.callee rfl rfl rfl (Q40.spec _ _ b295 w1209 t1207.length w1211 w937 none 0 0 none 0 0 w942 x939.length w943 w947 x944.length w948 b294 t1207 x938 t307.2.2 ([] : List Bs) ([] : List Q0) x939 x944 x949 2 hr1212 rfl hc1214 rfl rfl rfl rfl hc1218) ?_; rintro _ _ ⟨w1219, w1220, w1221, w1222, rfl, rfl, hr1223, rfl, hc1225⟩; refine At.alloc rfl rfl rfl (fun b1227 => ?_); refine At.store rfl rfl rfl rfl .z rfl rfl rfl (.c (.c (.c (.c .n)))) ?_; refine At.nil (At.thn ?_); refine At.block ?_; refine At.seq (At.region (At.run 3 rfl (At.y (Y.load rfl rfl (.s (.s .z)) rfl rfl rfl) rfl rfl rfl ?_))); refine At.y (Y.neOpt (.s .z) rfl rfl rfl rfl) rfl rfl rfl ?_; refine At.run 1 rfl (At.nil (At.thn ?_)); rcases bite j with ⟨h1228, j⟩ | ⟨h1228, j⟩
         ··refine At.condF rfl (nf h1228) ?_
           refine At.seq (At.region (At.run 1 rfl (At.y (Y.load rfl rfl .z rfl rfl rfl) rfl rfl rfl (At.run 2 rfl (At.nil (At.thn ?_)))))); rcases bite j with ⟨h1229, j⟩ | ⟨h1229, j⟩
           ··refine At.condT rfl h1229 ?_
             refine At.region (At.run 1 rfl (At.y (Y.load rfl rfl .z rfl rfl rfl) rfl rfl rfl (At.f7 (At.f7 (At.f7 (At.f7 (At.f7 ?_))))))); refine At.f6 (At.f7 ?_); obtain ⟨t1230, hc1231, j⟩ := bbind j; refine At.call rfl Q83.callee rfl rfl rfl (Q83.spec _ _ b295 w1220 t1217.2.1.length w1222 w1219 none 0 0 none 0 0 w942 x939.length w943 w947 x944.length w948 b294 t1217.2.1 t1217.1 t307.2.2 ([] : List Bs) ([] : List Q0) x939 x944 x949 t1217.2.2.1 t1217.2.2.2.1 t1217.2.2.2.2.1 t1217.2.2.2.2.2 hr1223 rfl hc1225 rfl rfl rfl rfl hc1231) ?_; rintro _ _ ⟨w1232, w1233, w1234, w1235, w1236, w1237, w1238, rfl, rfl, rfl, hr1240, rfl, hc1242⟩; refine At.nil ?_; refine At.ibn ?_; refine At.ibn ?_; refine At.drop (.s (.s (.s (.s (.s (.s (.s .z))))))) ?_; have j := bnx hf_ j; exact fun a w e hs => ⟨m1184, (t1230.2.2.1, x939, t1230.1, t1230.2.1, t1230.2.2.2, w1235, x939.length, w942, w943, t1230.1.length, w1233, w1234, w1236, t1230.2.2.2.length, w1238), hlt1186, ⟨j, rfl, rfl, hr1240, rfl, hc1242⟩, e.sub ⟨rfl, rfl, trivial⟩, hs⟩
           ··refine At.condF rfl (bn h1229) ?_
             refine At.seq (At.region (At.run 1 rfl (At.y (Y.load rfl rfl .z rfl rfl rfl) rfl rfl rfl (At.run 2 rfl (At.nil (At.thn ?_)))))); rcases bite j with ⟨h1244, j⟩ | ⟨h1244, j⟩
             ··refine At.condT rfl h1244 ?_
               refine At.region (At.run 1 rfl (At.f7 (At.f7 (At.f7 (At.f7 (At.f7 (At.f6 ?_))))))); refine At.f7 ?_; obtain ⟨t1245, hc1246, j⟩ := bbind j; refine At.call rfl Q35.callee rfl rfl rfl (Q35.spec _ _ b295 w1220 t1217.2.1.length w1222 w1219 none 0 0 none 0 0 w942 x939.length w943 w947 x944.length w948 b294 t1217.2.1 t1217.1 t307.2.2 ([] : List Bs) ([] : List Q0) x939 x944 x949 hr1223 rfl hc1225 rfl rfl rfl rfl hc1246) ?_; rintro _ _ ⟨w1247, w1248, w1249, w1250, w1251, w1252, w1253, rfl, rfl, rfl, hr1255, rfl, hc1257⟩; refine At.nil ?_; refine At.ibn ?_; refine At.ibn ?_; refine At.drop (.s (.s (.s (.s (.s (.s (.s .z))))))) ?_; have j := bnx hf_ j; exact fun a w e hs => ⟨m1184, (t1245.2.1, t1245.1, x944, x949, t1245.2.2, w1250, t1245.1.length, w1248, w1249, x944.length, w947, w948, w1251, t1245.2.2.length, w1253), hlt1186, ⟨j, rfl, rfl, hr1255, rfl, hc1257⟩, e.sub ⟨rfl, rfl, trivial⟩, hs⟩
             ··refine At.condF rfl (bn h1244) ?_
               refine At.region (At.run 1 rfl (At.y (Y.load rfl rfl .z rfl rfl rfl) rfl rfl rfl (At.f7 (At.f7 (At.f7 (At.f7 (At.f7 ?_))))))); refine At.f6 (At.f7 ?_); obtain ⟨t1259, hc1260, j⟩ := bbind j; refine At.call rfl Q11.callee rfl rfl rfl (Q11.spec _ _ b295 w1220 t1217.2.1.length w1222 w1219 none 0 0 none 0 0 w942 x939.length w943 w947 x944.length w948 b294 t1217.2.1 t1217.1 t307.2.2 ([] : List Bs) ([] : List Q0) x939 x944 x949 t1217.2.2.1 t1217.2.2.2.1 t1217.2.2.2.2.1 t1217.2.2.2.2.2 7 hr1223 rfl hc1225 rfl rfl rfl rfl hc1260) ?_; rintro _ _ ⟨w1261, rfl, rfl⟩; refine At.nil ?_; refine At.ibn ?_; refine At.ibn ?_; refine At.drop (.s (.s (.s (.s (.s (.s (.s .z))))))) ?_; have j := bnx hf_ j; exact fun a w e hs => ⟨m1184, (t1259, x939, x944, x949, t1217.2.1, w1261, x939.length, w942, w943, x944.length, w947, w948, w1220, t1217.2.1.length, w1222), hlt1186, ⟨j, rfl, rfl, hr1223, rfl, hc1225⟩, e.sub ⟨rfl, rfl, trivial⟩, hs⟩
         ··refine At.condT rfl (nt (bn h1228)) ?_
           refine At.skip ?_; refine At.ibn ?_; refine At.ibn ?_; refine At.drop .z ?_; have j := bnx hf_ j; exact fun a w e hs => ⟨m1184, (t1217.1, x939, x944, x949, t1217.2.1, w1219, x939.length, w942, w943, x944.length, w947, w948, w1220, t1217.2.1.length, w1222), hlt1186, ⟨j, rfl, rfl, hr1223, rfl, hc1225⟩, e.sub ⟨rfl, rfl, trivial⟩, hs⟩
     ··refine At.condF rfl (bn h1206) ?_
       refine At.exit ?_; refine At.the ?_; refine At.the ?_; refine At.f8 (At.f8 (At.f8 (At.f8 (At.f8 (At.f8 (At.f8 (At.f7 ?_))))))); refine At.f8 ?_; exact fun a w e hs => J1187 (x938, x939, x944, x949, x953, w937, x939.length, w942, w943, x944.length, w947, w948, w950, x953.length, w952) ⟨(bdn j ho1182), rfl, rfl, hr954, rfl, hc956⟩ a w (e.sub ⟨rfl, rfl, trivial⟩) hs
 ··refine At.condT rfl (nt (bn h293)) ?_
   refine At.seq (At.region ?_); refine At.y (Y.build (is := []) (xo := []) (vs := []) (cs := [.int .i64 0, .slice none 0 0, .slice none 0 0, .slice none 0 0]) rfl rfl rfl rfl rfl rfl) rfl rfl rfl ?_; refine At.run 1 rfl ?_; refine At.store rfl rfl rfl rfl (.s (.s .z)) rfl rfl rfl (.c (.c (.c (.c .n)))) ?_; refine At.run 1 rfl (At.nil (At.thn (At.ret (At.thr ?_)))); refine At.nilRow Fl.bs 9 ?_; refine At.nilRow Q0.fl 35 ?_; refine At.nilGrow Q1.ow 37 ?_; refine At.resM (.inl rfl) rfl (RV.cell rfl rfl (.s (.s (.s .z))) rfl rfl rfl (RV.tmp rfl RV.nil)) ?_; refine At.drop (.s (.s (.s .z))) (At.drop (.s (.s (.s .z))) (At.f3 (At.f1 (At.f2 (At.f3 ?_))))); cases bret j; exact fun a w e hs => ⟨_, ⟨w286, 0, none, 0, 0, none, 0, 0, none, 0, rfl, rfl, rfl, rfl, rfl⟩, hs⟩

end Go.Bw
namespace Go.Bw
open Go Go.RowKit Go.Proofs

noncomputable def Q107.f (a0_0 : Int) (a0_1 : List (Bs × Q5)) (a0_2 : List (Q7 × Q5)) (a1 : Bs) : Option (Int × Int × Int × Int) :=
 some (((mget a0_1 a1).getD (⟨(0 : Int), (0 : Int), (0 : Int), (0 : Int)⟩ : Q5)).c0, ((mget a0_1 a1).getD (⟨(0 : Int), (0 : Int), (0 : Int), (0 : Int)⟩ : Q5)).c1, ((mget a0_1 a1).getD (⟨(0 : Int), (0 : Int), (0 : Int), (0 : Int)⟩ : Q5)).c2, ((mget a0_1 a1).getD (⟨(0 : Int), (0 : Int), (0 : Int), (0 : Int)⟩ : Q5)).c3)
theorem Q107.callee : Callee Tryz.prog 20 := ⟨_, Tryz.func20, by kernel_rfl, by kernel_rfl⟩
theorem Q107.spec (R : Res) (Fr : List HProp) (b0 b0_1 b0_2 : Nat) (a0_0 : Int) (a0_1 : List (Bs × Q5)) (a0_2 : List (Q7 × Q5)) (a1 : Bs)  {r : Int × Int × Int × Int} (j : Q107.f a0_0 a0_1 a0_2 a1 = some r) :
 Spec Tryz.prog 20 [.pointer (some ⟨b0, 0, none⟩), .string ⟨(a1).toArray⟩] R (pt b0 (.cells [.int .i64 a0_0, .map (some b0_1), .map (some b0_2)].toArray 91) :: mapo Fl.bs.ov Q5.fl.av b0_1 a0_1 :: mapo Q7.fl.av Q5.fl.av b0_2 a0_2 :: Fr) (fun v l' => v = .agg #[.int .u64 r.1, .int .u64 r.2.1, .int .u64 r.2.2.1, .int .u64 r.2.2.2] ∧ pt b0 (.cells [.int .i64 a0_0, .map (some b0_1), .map (some b0_2)].toArray 91) :: mapo Fl.bs.ov Q5.fl.av b0_1 a0_1 :: mapo Q7.fl.av Q5.fl.av b0_2 a0_2 :: Fr = l') := by
 refine Spec.of Tryz.func20 rfl rfl ?_; unfold Q107.f at j; have j := brun j; refine At.seq (At.region ?_); refine At.alloc rfl rfl rfl (fun b256 => ?_); refine At.nil (At.thn (At.seq (At.region (At.run 3 rfl (At.y (Y.load rfl rfl (.s .z) rfl rfl rfl) rfl rfl rfl (At.run 1 rfl ?_)))))); refine At.y (Y.lookup (k := a1) (z := (⟨(0 : Int), (0 : Int), (0 : Int), (0 : Int)⟩ : Q5)) (.s (.s .z)) rfl rfl (KeyOk.str rfl rfl) (by kernel_rfl) rfl rfl rfl) rfl rfl rfl ?_; refine At.store rfl rfl rfl rfl .z rfl rfl rfl (.c (.c (.c (.c .n)))) ?_; refine At.nil (At.thn (At.ret ?_)); refine At.resM (.inl rfl) rfl (RV.cell rfl rfl .z rfl rfl rfl RV.nil) ?_; refine At.drop .z ?_; cases bret j; exact fun a w e hs => ⟨_, ⟨rfl, rfl⟩, hs⟩




noncomputable def Q105.f (a0_0 : Int) (a0_1 : List (Bs × Q5)) (a0_2 : List (Q7 × Q5)) (a1 : Int) (a2 : Bs) : Option (Int × Int × Int × Int) :=
 some (((mget a0_2 (⟨a1, a2⟩ : Q7)).getD (⟨(0 : Int), (0 : Int), (0 : Int), (0 : Int)⟩ : Q5)).c0, ((mget a0_2 (⟨a1, a2⟩ : Q7)).getD (⟨(0 : Int), (0 : Int), (0 : Int), (0 : Int)⟩ : Q5)).c1, ((mget a0_2 (⟨a1, a2⟩ : Q7)).getD (⟨(0 : Int), (0 : Int), (0 : Int), (0 : Int)⟩ : Q5)).c2, ((mget a0_2 (⟨a1, a2⟩ : Q7)).getD (⟨(0 : Int), (0 : Int), (0 : Int), (0 : Int)⟩ : Q5)).c3)
theorem Q105.callee : Callee Tryz.prog 22 := ⟨_, Tryz.func22, by kernel_rfl, by kernel_rfl⟩
theorem Q105.spec (R : Res) (Fr : List HProp) (b0 b0_1 b0_2 : Nat) (a0_0 : Int) (a0_1 : List (Bs × Q5)) (a0_2 : List (Q7 × Q5)) (a1 : Int) (a2 : Bs)  {r : Int × Int × Int × Int} (j : Q105.f a0_0 a0_1 a0_2 a1 a2 = some r) :
 Spec Tryz.prog 22 [.pointer (some ⟨b0, 0, none⟩), .int .i64 a1, .string ⟨(a2).toArray⟩] R (pt b0 (.cells [.int .i64 a0_0, .map (some b0_1), .map (some b0_2)].toArray 91) :: mapo Fl.bs.ov Q5.fl.av b0_1 a0_1 :: mapo Q7.fl.av Q5.fl.av b0_2 a0_2 :: Fr) (fun v l' => v = .agg #[.int .u64 r.1, .int .u64 r.2.1, .int .u64 r.2.2.1, .int .u64 r.2.2.2] ∧ pt b0 (.cells [.int .i64 a0_0, .map (some b0_1), .map (some b0_2)].toArray 91) :: mapo Fl.bs.ov Q5.fl.av b0_1 a0_1 :: mapo Q7.fl.av Q5.fl.av b0_2 a0_2 :: Fr = l') := by
 refine Spec.of Tryz.func22 rfl rfl ?_; unfold Q105.f at j; have j := brun j; refine At.seq (At.region ?_); refine At.alloc rfl rfl rfl (fun b256 => ?_); refine At.nil (At.thn (At.seq (At.region (At.run 3 rfl (At.y (Y.load rfl rfl (.s .z) rfl rfl rfl) rfl rfl rfl (At.run 2 rfl ?_)))))); refine At.y (Y.build (is := [0, 1]) (xo := [.tmp 11, .tmp 12]) (vs := [.int .i64 a1, .string ⟨(a2).toArray⟩]) (cs := [.int .i64 a1, .string ⟨(a2).toArray⟩]) rfl rfl rfl rfl rfl rfl) rfl rfl rfl ?_; refine At.y (Y.lookup (k := (⟨a1, a2⟩ : Q7)) (z := (⟨(0 : Int), (0 : Int), (0 : Int), (0 : Int)⟩ : Q5)) (.s (.s (.s .z))) rfl rfl Q7.keyok (by kernel_rfl) rfl rfl rfl) rfl rfl rfl ?_; refine At.store rfl rfl rfl rfl .z rfl rfl rfl (.c (.c (.c (.c .n)))) ?_; refine At.nil (At.thn (At.ret ?_)); refine At.resM (.inl rfl) rfl (RV.cell rfl rfl .z rfl rfl rfl RV.nil) ?_; refine At.drop .z ?_; cases bret j; exact fun a w e hs => ⟨_, ⟨rfl, rfl⟩, hs⟩













end Go.Bw
namespace Go.Bw
open Go Go.RowKit Go.Proofs
noncomputable def Q79.f (a0_0 : Int) (a0_1 : List (Bs × Q5)) (a0_2 : List (Q7 × Q5)) : Option Int :=
 some a0_0
theorem Q79.callee : Callee Tryz.prog 63 := ⟨_, Tryz.func63, by kernel_rfl, by kernel_rfl⟩
theorem Q79.spec (R : Res) (Fr : List HProp) (b0 b0_1 b0_2 : Nat) (a0_0 : Int) (a0_1 : List (Bs × Q5)) (a0_2 : List (Q7 × Q5))  {r : Int} (j : Q79.f a0_0 a0_1 a0_2 = some r) :
 Spec Tryz.prog 63 [.pointer (some ⟨b0, 0, none⟩)] R (pt b0 (.cells [.int .i64 a0_0, .map (some b0_1), .map (some b0_2)].toArray 91) :: mapo Fl.bs.ov Q5.fl.av b0_1 a0_1 :: mapo Q7.fl.av Q5.fl.av b0_2 a0_2 :: Fr) (fun v l' => v = .int .i64 r ∧ pt b0 (.cells [.int .i64 a0_0, .map (some b0_1), .map (some b0_2)].toArray 91) :: mapo Fl.bs.ov Q5.fl.av b0_1 a0_1 :: mapo Q7.fl.av Q5.fl.av b0_2 a0_2 :: Fr = l') := by
 refine Spec.of Tryz.func63 rfl rfl ?_; unfold Q79.f at j; have j := brun j; refine At.seq (At.region (At.run 1 rfl (At.nil (At.thn (At.seq (At.region (At.run 3 rfl ?_))))))); refine At.y (Y.load rfl rfl .z rfl rfl rfl) rfl rfl rfl (At.run 1 rfl (At.nil (At.thn (At.ret ?_)))); cases bret j; exact At.res (.inl rfl) rfl rfl ⟨rfl, rfl⟩

noncomputable def Q86.f  : Option Bool :=
 (Q33.f ([115, 116, 97, 116, 101, 115, 32, 50, 10, 101, 100, 103, 101, 32, 49, 32, 97, 32, 48, 10, 109, 97, 114, 107, 32, 112, 32, 49, 10] : Bs)).bind fun t271 =>
 (Q8.f t271.2.2.2.2 t271.2.1 t271.2.2.1 t271.2.2.2.1).bind fun t309 =>
 jn (
 if t271.1.isNone = true then
 some (.inl t309.isNone)
 else
 some (.inl true)) (fun (x513 : Bool) =>
 if x513 = true then
 some false
 else
 if t309.isNone = false then
 (Q79.f ((t309.getD default).states) ((t309.getD default).holds) ((t309.getD default).next)).bind fun t530 =>
 jn (
 if t530 = 2 then
 (Q105.f ((t309.getD default).states) ((t309.getD default).holds) ((t309.getD default).next) 1 ([97] : Bs)).bind fun t946 =>
 some (.inl (decide (t946.1 = 1) && (decide (t946.2.1 = 0) && (decide (t946.2.2.1 = 0) && (decide (t946.2.2.2 = 0) && true)))))
 else
 some (.inl false)) (fun (x732 : Bool) =>
 jn (
 if x732 = true then
 (Q107.f ((t309.getD default).states) ((t309.getD default).holds) ((t309.getD default).next) ([112] : Bs)).bind fun t943 =>
 some (.inl (decide (t943.1 = 2) && (decide (t943.2.1 = 0) && (decide (t943.2.2.1 = 0) && (decide (t943.2.2.2 = 0) && true)))))
 else
 some (.inl false)) (fun (x937 : Bool) =>
 some x937))
 else none)
theorem Q86.callee : Callee Tryz.prog 24 := ⟨_, Tryz.func24, by kernel_rfl, by kernel_rfl⟩
theorem Q86.spec (R : Res) (Fr : List HProp)    {r : Bool} (j : Q86.f  = some r) :
 Spec Tryz.prog 24 [] R (Fr) (fun v l' => v = .bool r ∧ Fr = l') := by
 refine Spec.of Tryz.func24 rfl rfl ?_; unfold Q86.f at j; have j := brun j; refine At.seq (At.region (At.run 1 rfl (At.nil (At.thn (At.seq (At.region ?_)))))); obtain ⟨t271, hc272, j⟩ := bbind j; refine At.call rfl Q33.callee rfl rfl rfl (Q33.spec _ _  ([115, 116, 97, 116, 101, 115, 32, 50, 10, 101, 100, 103, 101, 32, 49, 32, 97, 32, 48, 10, 109, 97, 114, 107, 32, 112, 32, 49, 10] : Bs)  hc272) ?_; rintro _ _ ⟨w273, w274, w275, w276, w277, w278, w279, w280, w281, w282, rfl, rfl, rfl, rfl, rfl⟩; refine At.run 3 rfl ?_; refine At.alloc rfl rfl rfl (fun b290 => ?_); refine At.store rfl rfl rfl rfl .z rfl rfl rfl (.c (.c (.c (.c .n)))) ?_; refine At.run 1 rfl (At.nil (At.thn (At.seq (At.region (At.y (Y.load rfl rfl .z rfl rfl rfl) rfl rfl rfl ?_))))); refine At.freeze (.s .z) fun R291 hr292 hn293 hc294 hs295 th296 => ?_; refine At.freeze (.s .z) fun R297 hr298 hn299 hc300 hs301 th302 => ?_; refine At.freezeGrow (.s .z) fun R303 hr304 hn305 hc306 hs307 th308 => ?_; obtain ⟨t309, hc310, j⟩ := bbind j; refine At.call rfl Q8.callee rfl rfl rfl (Q8.spec _ _ w275 t271.2.1.length w276 w278 t271.2.2.1.length w279 w281 t271.2.2.2.1.length w282 t271.2.2.2.2 t271.2.1 t271.2.2.1 t271.2.2.2.1 (RdS.mono (hs301.trans hs307) hr292) hn293 hc294 (RdS.mono hs307 hr298) hn299 hc300 hr304 hn305 hc306 hc310) ?_; rintro _ _ ⟨w311, rfl, rfl⟩; refine At.run 1 rfl (At.nil (At.thn (At.seq (At.seq (At.region (At.run 1 rfl ?_)))))); refine At.y (Y.neOptI (.s (.s .z)) rfl rfl rfl) rfl rfl rfl ?_; refine At.run 1 rfl ?_; obtain ⟨G514, hl515, hr516, j⟩ := bjoin j; refine At.joinO 3 (X := Bool) (fun x513 => [(3, optp w311), (15, .bool x513)]) (fun x513 => optb Q46.ow 91 w311 t309 :: pt b290 (.cells [.int .i64 t271.2.2.2.2, .slice w275 t271.2.1.length w276, .slice w278 t271.2.2.1.length w279, .slice w281 t271.2.2.2.1.length w282].toArray 26) :: optb (Ow.fl Q2.fl) 58 w273 t271.1 :: Fr) (fun x513 => G514 (.inl x513) = some r) ?_ (fun J517 => ?_)
 ·rintro x513 j; have j := (hl515 _).symm.trans j
  ·refine At.nil (At.thn ?_); rcases bite j with ⟨h518, j⟩ | ⟨h518, j⟩
   ··refine At.condT rfl h518 ?_
     refine At.seq (At.region (At.run 1 rfl (At.nil (At.thn (At.ret (At.thr ?_)))))); refine At.thaw th308 ?_; refine At.thaw th302 ?_; refine At.thaw th296 ?_; refine At.drop .z (At.drop .z (At.drop .z (At.drop .z (At.drop .z (At.drop .z ?_))))); cases bret j; exact At.res (.inl rfl) rfl rfl ⟨rfl, rfl⟩
   ··refine At.condF rfl (bn h518) ?_
     refine At.skip (At.thn (At.seq (At.region (At.run 1 rfl ?_)))); obtain ⟨h519, j⟩ := bnone j; refine At.optOpen .z h519 (fun b520 hb521 cs522 => ?_); have hq523 := j; subst hb521; have j := hq523; refine At.ownPair (T := Ow.fl (Fl.int .i64)) (U := ((Ow.mp Fl.bs.ov Q5.fl.av).pair (Ow.mp Q7.fl.av Q5.fl.av))) (x := ((t309.getD default).states, (t309.getD default).holds, (t309.getD default).next)) (.s .z) ?_; rintro cs524 cs525 rfl; refine At.ownFl (F := (Fl.int .i64)) (x := (t309.getD default).states) .z ?_; rintro rfl; refine At.ownPair (T := Ow.mp Fl.bs.ov Q5.fl.av) (U := (Ow.mp Q7.fl.av Q5.fl.av)) (x := ((t309.getD default).holds, (t309.getD default).next)) .z ?_; rintro cs526 cs527 rfl; refine At.ownMp (kv := Fl.bs.ov) (vv := Q5.fl.av) (kvs := (t309.getD default).holds) .z ?_; rintro b528 rfl; refine At.ownMp (kv := Q7.fl.av) (vv := Q5.fl.av) (kvs := (t309.getD default).next) (.s .z) ?_; rintro b529 rfl; refine At.f1 (At.f2 ?_); obtain ⟨t530, hc531, j⟩ := bbind j; refine At.call rfl Q79.callee rfl rfl rfl (Q79.spec _ _ b520 b528 b529 ((t309.getD default).states) ((t309.getD default).holds) ((t309.getD default).next)  hc531) ?_; rintro _ _ ⟨rfl, rfl⟩; refine At.run 2 rfl ?_; obtain ⟨G733, hl734, hr735, j⟩ := bjoin j; refine At.joinO 5 (X := Bool) (fun x732 => [(3, .pointer (some ⟨b520, 0, none⟩)), (24, .bool x732)]) (fun x732 => pt b520 (.cells [.int .i64 ((t309.getD default).states), .map (some b528), .map (some b529)].toArray 91) :: mapo Fl.bs.ov Q5.fl.av b528 ((t309.getD default).holds) :: mapo Q7.fl.av Q5.fl.av b529 ((t309.getD default).next) :: pt b290 (.cells [.int .i64 t271.2.2.2.2, .slice w275 t271.2.1.length w276, .slice w278 t271.2.2.1.length w279, .slice w281 t271.2.2.2.1.length w282].toArray 26) :: optb (Ow.fl Q2.fl) 58 w273 t271.1 :: Fr) (fun x732 => G733 (.inl x732) = some r) ?_ (fun J736 => ?_)
     ·rintro x732 j; have j := (hl734 _).symm.trans j
      ·refine At.run 1 rfl ?_; obtain ⟨G938, hl939, hr940, j⟩ := bjoin j; refine At.joinO 5 (X := Bool) (fun x937 => [(30, .bool x937)]) (fun x937 => pt b520 (.cells [.int .i64 ((t309.getD default).states), .map (some b528), .map (some b529)].toArray 91) :: mapo Fl.bs.ov Q5.fl.av b528 ((t309.getD default).holds) :: mapo Q7.fl.av Q5.fl.av b529 ((t309.getD default).next) :: pt b290 (.cells [.int .i64 t271.2.2.2.2, .slice w275 t271.2.1.length w276, .slice w278 t271.2.2.1.length w279, .slice w281 t271.2.2.2.1.length w282].toArray 26) :: optb (Ow.fl Q2.fl) 58 w273 t271.1 :: Fr) (fun x937 => G938 (.inl x937) = some r) ?_ (fun J941 => ?_)
       ·rintro x937 j; have j := (hl939 _).symm.trans j
        ·refine At.run 1 rfl (At.nil (At.thn (At.ret ?_))); refine At.thaw th308 ?_; refine At.thaw th302 ?_; refine At.thaw th296 ?_; refine At.drop .z (At.drop .z (At.drop .z (At.drop .z (At.drop .z (At.drop .z (At.drop .z (At.drop .z ?_))))))); cases bret j; exact At.res (.inl rfl) rfl rfl ⟨rfl, rfl⟩
       ··rcases bite j with ⟨h942, j⟩ | ⟨h942, j⟩
         ··refine At.know (t := 25) rfl h942 ?_
           refine At.run 1 rfl ?_; obtain ⟨t943, hc944, j⟩ := bbind j; refine At.call rfl Q107.callee rfl rfl rfl (Q107.spec _ _ b520 b528 b529 ((t309.getD default).states) ((t309.getD default).holds) ((t309.getD default).next) ([112] : Bs)  hc944) ?_; rintro _ _ ⟨rfl, rfl⟩; refine At.y (Y.buildA (is := [0]) (xo := [.const (.int .u64 2)]) (vs := [.int .u64 2]) (cs := [.int .u64 2, .int .u64 0, .int .u64 0, .int .u64 0]) rfl rfl rfl rfl rfl rfl) rfl rfl rfl ?_; refine At.y (Y.eqAr (xs := [.int .u64 t943.1, .int .u64 t943.2.1, .int .u64 t943.2.2.1, .int .u64 t943.2.2.2]) (ys := [.int .u64 2, .int .u64 0, .int .u64 0, .int .u64 0]) rfl rfl rfl rfl rfl rfl rfl (by kernel_rfl) rfl) rfl rfl rfl ?_; refine At.run 1 rfl ?_; exact At.of (J941 (decide (t943.1 = 2) && (decide (t943.2.1 = 0) && (decide (t943.2.2.1 = 0) && (decide (t943.2.2.2 = 0) && true)))) j) ⟨rfl, trivial⟩
         ··refine At.know (t := 25) rfl (bn h942) ?_
           refine At.run 5 rfl ?_; exact At.of (J941 false j) ⟨rfl, trivial⟩
     ··rcases bite j with ⟨h945, j⟩ | ⟨h945, j⟩
       ··refine At.know (t := 19) rfl (decide_eq_true h945) ?_
         refine At.run 1 rfl ?_; obtain ⟨t946, hc947, j⟩ := bbind j; refine At.call rfl Q105.callee rfl rfl rfl (Q105.spec _ _ b520 b528 b529 ((t309.getD default).states) ((t309.getD default).holds) ((t309.getD default).next) 1 ([97] : Bs)  hc947) ?_; rintro _ _ ⟨rfl, rfl⟩; refine At.y (Y.buildA (is := [0]) (xo := [.const (.int .u64 1)]) (vs := [.int .u64 1]) (cs := [.int .u64 1, .int .u64 0, .int .u64 0, .int .u64 0]) rfl rfl rfl rfl rfl rfl) rfl rfl rfl ?_; refine At.y (Y.eqAr (xs := [.int .u64 t946.1, .int .u64 t946.2.1, .int .u64 t946.2.2.1, .int .u64 t946.2.2.2]) (ys := [.int .u64 1, .int .u64 0, .int .u64 0, .int .u64 0]) rfl rfl rfl rfl rfl rfl rfl (by kernel_rfl) rfl) rfl rfl rfl ?_; refine At.run 1 rfl ?_; exact At.of (J736 (decide (t946.1 = 1) && (decide (t946.2.1 = 0) && (decide (t946.2.2.1 = 0) && (decide (t946.2.2.2 = 0) && true)))) j) ⟨rfl, rfl, trivial⟩
       ··refine At.know (t := 19) rfl (decide_eq_false h945) ?_
         refine At.run 5 rfl ?_; exact At.of (J736 false j) ⟨rfl, rfl, trivial⟩
 ··rcases bite j with ⟨h948, j⟩ | ⟨h948, j⟩
   ··refine At.know (t := 12) rfl (nf h948) ?_
     refine At.run 1 rfl ?_; refine At.y (Y.eqOpt .z rfl rfl rfl rfl) rfl rfl rfl ?_; refine At.run 1 rfl ?_; exact At.of (J517 t309.isNone j) ⟨rfl, rfl, trivial⟩
   ··refine At.know (t := 12) rfl (nt (bn h948)) ?_
     refine At.run 3 rfl ?_; exact At.of (J517 true j) ⟨rfl, rfl, trivial⟩

end Go.Bw
namespace Go.Bw
open Go Go.RowKit

def Fl.byte : Fl UInt8 := ⟨1, fun x => [.int .u8 (x.toNat : Int)], fun _ => rfl, fun _ u hu => by simp at hu; subst hu; rfl, by decide⟩
theorem Q171 : ∀ s : Bs, s.flatMap Fl.byte.enc = Lib.strCells ⟨s.toArray⟩
 | [] => rfl
 | x :: s => by
  have := Q171 s
  simp only [Lib.strCells] at this ⊢
  rw [List.flatMap_cons, this]
  rfl
def bld (T e b : Nat) (xs : Bs) : HProp := fun h => ∃ (p : Option Addr) (A : Option Addr) (c : Nat), (p = none ∨ p = some ⟨b, 0, none⟩) ∧ (A = none ∨ 0 < c) ∧ stars [pt b (.cells [.pointer p, .slice A xs.length c].toArray T), row Fl.byte e A xs.length c xs] h
section
variable {P : Program} [Tys P] {os : List Oper} {Q : Exit → Act → World → Prop} {rest : List Oper} {n : Nat} {ds : List Deferred} {R : Res} {env : List (Nat × Value)} {l l' : List HProp}
variable {d ty t T e b : Nat} {pos : String} {af : Array Edge} {g : Option (Nat × Bool)} {dd : Option Nat} {xs ys : Bs} {A : Option Addr} {c : Nat} {K : Act → World → Prop} {p : Option Addr}
theorem Q201 {c1 c2 : HProp} {l : List HProp} {h : PHeap} : stars (c1 :: c2 :: l) h ↔ ∃ h1 h2, stars [c1, c2] h1 ∧ stars l h2 ∧ Disj h1 h2 ∧ Sub h1 h ∧ Sub h2 h := Q97 (L := [c1, c2])
theorem At.openBld (f : Frt l (bld T e b xs) l') (h : ∀ p A c, (p = none ∨ p = some ⟨b, 0, none⟩) → (A = none ∨ 0 < c) → At n ds R env (pt b (.cells [.pointer p, .slice A xs.length c].toArray T) :: row Fl.byte e A xs.length c xs :: l') K) : At n ds R env l K := fun a w e0 hs => by
 obtain ⟨ok, k, ⟨h1, h2, ⟨p, A, c, hp, hA, s⟩, s2, d, t1, t2⟩, dR, ss⟩ := hs.frt f
 exact h p A c hp hA a w e0 ⟨ok, k, Q201.2 ⟨h1, h2, s, s2, d, t1, t2⟩, dR, ss⟩
theorem Q231 {w : World} (hp : p = none ∨ p = some ⟨b, 0, none⟩) (hA : A = none ∨ 0 < c) (hs : sat R (pt b (.cells [.pointer p, .slice A xs.length c].toArray T) :: row Fl.byte e A xs.length c xs :: l) w) : sat R (bld T e b xs :: l) w := by
 obtain ⟨ok, k, s, dR, ss⟩ := hs
 obtain ⟨h1, h2, s1, s2, d, t1, t2⟩ := Q201.1 s
 exact ⟨ok, k, ⟨h1, h2, ⟨p, A, c, hp, hA, s1⟩, s2, d, t1, t2⟩, dR, ss⟩
theorem At.shutBld (hp : p = none ∨ p = some ⟨b, 0, none⟩) (hA : A = none ∨ 0 < c) (h : At n ds R env (bld T e b xs :: l) K) : At n ds R env (pt b (.cells [.pointer p, .slice A xs.length c].toArray T) :: row Fl.byte e A xs.length c xs :: l) K := fun a w e0 hs =>
 h a w e0 (Q231 hp hA hs)
theorem At.toBld (T e : Nat) (h : At n ds R env (bld T e b [] :: l) K) : At n ds R env (pt b (.cells [.pointer none, .slice none 0 0].toArray T) :: l) K :=
 At.imp (c' := bld T e b []) (fun h0 o => ⟨none, none, 0, .inl rfl, .inl rfl, h0, fun _ => none, o, ⟨fun _ => none, fun _ => none, ⟨rfl, .inl ⟨rfl, rfl, rfl⟩⟩, trivial, (fun _ _ _ e => by cases e), Sub.refl _, Sub.refl _⟩, (fun _ _ _ _ e => by cases e), Sub.refl _, (fun _ _ e => by cases e)⟩) h
theorem Y.toUnsafe {src dst : Nat} {x : Operand} {cs : List Value} {i : TI} (f : Frt l (pt b (.cells cs.toArray e)) l') (hi : ti P t = some i) (hz : Nat.blt 0 i.size = true) (hs : P.underlying src = some (.pointer t)) (hd : P.underlying dst = some .unsafePointer) (hx : ev env x = some (.pointer (some ⟨b, 0, none⟩))) (hl : Nat.blt 0 cs.length = true) :
 Y P n ds R env l ⟨dd, .convert src dst x, ty, pos, af, g⟩ (.pointer (some ⟨b, 0, none⟩)) := fun a w e0 hsat => by
 obtain ⟨xi, z, hxi, hsz, hby, hze, hzc⟩ := (Q10 hi).info
 have hb := (hsat.frt f).pt
 have hz1 : 0 < i.size := by simpa using hz
 have := Lib.run_to_unsafe (P := P) w ⟨b, 0, none⟩ hs hd hxi (by omega) (e := e) (cells := cs.length) (by simp [World.shape?, hb]) (by simpa using hl)
 simp only [execOp, e0.ev hx, Sem.run_bind, this, Result.andThen, Sem.run_pure]
theorem Y.fromUnsafe {src dst : Nat} {x : Operand} {cs : List Value} {i : TI} (f : Frt l (pt b (.cells cs.toArray e)) l') (hi : ti P t = some i) (hs : P.underlying src = some .unsafePointer) (hd : P.underlying dst = some (.pointer t)) (hx : ev env x = some (.pointer (some ⟨b, 0, none⟩)))
 (hl : liesAt P P.depth e (cs.length / P.cellsOf e) 0 t 1 = true) :
 Y P n ds R env l ⟨dd, .convert src dst x, ty, pos, af, g⟩ (.pointer (some ⟨b, 0, none⟩)) := fun a w e0 hsat => by
 obtain ⟨xi, z, hxi, hsz, hby, hze, hzc⟩ := (Q10 hi).info
 have hb := (hsat.frt f).pt
 have := Lib.run_from_unsafe (P := P) w ⟨b, 0, none⟩ hs hd hxi (e := e) (cells := cs.length) (by simp [World.shape?, hb]) hl
 simp only [execOp, e0.ev hx, Sem.run_bind, this, Result.andThen, Sem.run_pure]
theorem Y.nePtrSame {x y : Operand} {yt : Nat} {q : Addr} {i : TI} (hi : ti P b = some i) (hs : P.underlying t = some (.pointer b)) (hx : ev env x = some (.pointer (some q))) (hy : ev env y = some (.pointer (some q))) :
 Y P n ds R env l ⟨dd, .binOp .neq t x y yt, ty, pos, af, g⟩ (.bool false) := fun a w e0 hsat => by
 obtain ⟨xi, z, hxi, hsz, hby, hze, hzc⟩ := (Q10 hi).info
 have := Lib.run_neq_ptr_same (P := P) w q hs hxi
 simp only [execOp, e0.ev hx, e0.ev hy, eqGuard, Sem.run_bind]
 simp at this ⊢
 simp [this]
theorem run_noesc {P : Program} (v : Value) (w : World) : (Extern.AbiNoEscape.same #[v]).run P w = .ok v w := rfl
theorem At.appendStr (hg : grd os env g = some true) {x y : Operand} {u : Nat} {ii : TI} (f : Frt l (row Fl.byte e A xs.length c xs) l') (hi : ti P t = some ii) (hk : ii.k = .slice e) (hu : P.underlying u = some .string) (hj : (P.info? e).map (fun z => (z.size, z.bytes, z.zero)) = some (1, 1, some (.int .u8 0)))
 (hx : ev env x = some (.slice A xs.length c)) (hy : ev env y = some (.string ⟨ys.toArray⟩)) (hA : A = none ∨ 0 < c) (hb : xs.length + ys.length ≤ 140737488355328) (hd : Nat.blt d n = true)
 (h : ∀ A' c', (A' = none ∨ 0 < c') → At n ds R ((d, .slice A' (xs ++ ys).length c') :: env) (row Fl.byte e A' (xs ++ ys).length c' (xs ++ ys) :: l') (wpList P os.toArray Q rest)) :
 At n ds R env l (wpList P os.toArray Q (⟨some d, .call ⟨.builtin .append, #[x, y], #[t, u]⟩, ty, pos, af, g⟩ :: rest)) := Q91 hg rfl hd fun a w e0 hs => by
 have hs1 := hs.frt f
 obtain ⟨h', o, s⟩ := hs1.head
 obtain ⟨xi, hxi, hq⟩ := Option.map_eq_some_iff.1 hj
 simp only [Prod.mk.injEq] at hq
 obtain ⟨q1, q2, q3⟩ := hq
 have hys : (ByteArray.mk ys.toArray).size = ys.length := Q101 ys
 have hsl := (Q10 hi).slice hk
 obtain ⟨v', w', hr, ho', hg', hn⟩ := Lib.run_append_own_string (P := P) w 0 t u ty e xi hsl hu hxi q3 q1 q2 (.slice A xs.length c) xs.length (xs.flatMap Fl.byte.enc) (Q110 o s) ⟨ys.toArray⟩ (by rw [hys]; simp only [maxLen]; omega) (by rw [hys]; exact hb) (Nat.zero_le _)
 have hob : (v'.ownBlock = (Value.slice A xs.length c).ownBlock ∧ (ys = [] → ∃ m, v' = .slice A m c)) ∨ ∃ b, v'.ownBlock = some b ∧ w.heap.size ≤ b := by
  have hw := (Q110 o s).2
  rcases hw with ⟨hv, hx0⟩ | ⟨g0, cap, cur, hv, hbg, hgg, hnc, hcm, hcs, htake⟩
  ·by_cases hy0 : ys = []
   ·have := hn.2 ⟨hv, by rw [hys, hy0]; rfl⟩
    simp only [Value.slice.injEq] at hv
    obtain ⟨rfl, _, rfl⟩ := hv
    exact .inl ⟨by rw [this]; rfl, fun _ => ⟨0, this⟩⟩
   ·have hyl : 0 < ys.length := List.length_pos_iff.2 hy0
    rw [hv] at hr
    rw [hv]
    have hr2 := run_append_nil_string (P := P) w t u ty e xi (.int .u8 0) hsl hu hxi q3 ⟨ys.toArray⟩ (by rw [hys]; omega) (by rw [hys]; omega) (by rw [q2, hys]; omega)
    rw [hr] at hr2
    have := (Result.ok.inj hr2).1
    exact .inr ⟨_, by rw [this]; rfl, Nat.le_refl _⟩
  ·cases hv
   by_cases hroom : xs.length + ys.length ≤ c
   ·have hr2 := Lib.run_append_room_string (P := P) w t u ty e xi hsl hu hxi q1 g0 xs.length c cur hgg ⟨ys.toArray⟩ (by rw [hys]; exact hroom) (by rw [hys]; have : cur.size = c * 1 := hcs; omega)
    rw [hr] at hr2
    have := (Result.ok.inj hr2).1
    exact .inl ⟨by rw [this]; rfl, fun _ => ⟨_, this⟩⟩
   ·have hr2 := Lib.run_append_grow_string (P := P) w t u ty e xi (.int .u8 0) hsl hu hxi q3 ⟨g0, 0, none⟩ xs.length c (xs.flatMap Fl.byte.enc) (by rw [q1, Q99]; rfl) (fun j v hv => (Q110 o s).cells (g := g0) rfl j v hv) ⟨ys.toArray⟩ (by rw [hys]; omega) (by rw [hys]; omega) (by rw [q2, hys]; exact growslice_fits (by omega) (by omega))
    rw [hr] at hr2
    have := (Result.ok.inj hr2).1
    exact .inr ⟨_, by rw [this]; rfl, Nat.le_refl _⟩
 obtain ⟨A', c', rfl, hs2⟩ := hs1.grown hg' (Q214 _ hr) ho' (hob.imp (·.1) id)
 have hy' : own e Fl.byte.sz A' (xs.length + (ByteArray.mk ys.toArray).size) c' (xs.flatMap Fl.byte.enc ++ Lib.strCells ⟨ys.toArray⟩) = row Fl.byte e A' (xs ++ ys).length c' (xs ++ ys) := by
  unfold row; rw [List.flatMap_append, hys, Q171 ys, List.length_append]
 have hl : xs.length + (ByteArray.mk ys.toArray).size = (xs ++ ys).length := by rw [hys, List.length_append]
 rw [show own e Fl.byte.sz A' (xs.length + (ByteArray.mk ys.toArray).size) c' (xs.flatMap Fl.byte.enc ++ Lib.strCells ⟨ys.toArray⟩) = _ from hy'] at hs2
 refine ⟨.slice A' (xs ++ ys).length c', w', row Fl.byte e A' (xs ++ ys).length c' (xs ++ ys) :: l', ?_, hs2, h A' c' ?_⟩
 ·rw [← hl]
  simp only [execOp, resolve, invoke, builtin, Sem.run_bind, Sem.run_pure, Result.andThen_ok, List.map_toArray, List.map_cons, List.map_nil, e0.ev hx, e0.ev hy, hr]
 ·cases A' with
  | none => exact .inl rfl
  | some ad =>
   right
   by_cases hlen : (xs ++ ys).length = 0
   ·have hy0 : ys = [] := by simp at hlen; exact hlen.2
    rcases hob with ⟨_, h2⟩ | ⟨b0, hb0, hb1⟩
    ·obtain ⟨m, hm⟩ := h2 hy0
     cases hm
     rcases hA with hA | hA
     ·cases hA
     ·exact hA
    ·exfalso
     rcases (Q110 o s).2 with ⟨hv, hx0⟩ | ⟨g0, cap, cur, hv, hbg, hgg, hnc, hcm, hcs, htake⟩
     ·have := hn.2 ⟨hv, by rw [hys, hy0]; rfl⟩
      cases this
     ·cases hv
      have hr2 := Lib.run_append_room_string (P := P) w t u ty e xi hsl hu hxi q1 g0 xs.length c cur hgg ⟨ys.toArray⟩ (by rw [hys, hy0]; simpa using hnc) (by rw [hys, hy0]; have : cur.size = c * 1 := hcs; show _ + 0 ≤ _; omega)
      rw [hr] at hr2
      have := (Result.ok.inj hr2).1
      cases this
      simp [Value.ownBlock] at hb0
      subst hb0
      have := (Array.getElem?_eq_some_iff.1 hgg).1
      omega
   ·obtain ⟨h2, o2, _⟩ := hs2.head
    obtain ⟨_, _, _, _, h3, _⟩ := Q113 o2 (by omega)
    omega
theorem Y.sliceData {x : Operand} {m : Nat} (hx : ev env x = some (.slice A m c)) (hA : A = none ∨ 0 < c) :
 Y P n ds R env l ⟨dd, .call ⟨.builtin .unsafeSliceData, #[x], #[t]⟩, ty, pos, af, g⟩ (.pointer A) := fun a w e0 hs => by
 have hr : (Builtin.unsafeSliceData_ #[t] ty #[.slice A m c]).run P w = .ok (.pointer A) w := by
  cases A with
  | none => exact Lib.run_unsafeSliceData_nil w _ _ _ _
  | some ad => exact Lib.run_unsafeSliceData_row w _ _ _ _ _ (by rcases hA with h | h; cases h; omega)
 simp only [execOp, resolve, invoke, builtin, Sem.run_bind, Sem.run_pure, Result.andThen_ok, List.map_toArray, List.map_cons, List.map_nil, e0.ev hx, hr]
theorem At.unsafeStr (hg : grd os env g = some true) {x y : Operand} {u : Nat} (f : Frt l (row Fl.byte e A xs.length c xs) l') (hp : P.underlying t = some (.pointer e)) (hc : P.cellsOf e = 1) (hx : ev env x = some (.pointer A)) (hy : ev env y = some (.int .i64 (xs.length : Int))) (hd : Nat.blt d n = true)
 (h : At n ds R ((d, .string ⟨xs.toArray⟩) :: env) l' (wpList P os.toArray Q rest)) :
 At n ds R env l (wpList P os.toArray Q (⟨some d, .call ⟨.builtin .unsafeString, #[x, y], #[t, u]⟩, ty, pos, af, g⟩ :: rest)) := Q91 hg rfl hd fun a w e0 hs => by
 have hs1 := hs.frt f
 by_cases h0 : xs = []
 ·subst h0
  have hr := Lib.run_unsafeString_none (P := P) w t u ty A
  refine ⟨.string ⟨#[]⟩, w, l', ?_, hs1.drop, h⟩
  simp only [execOp, resolve, invoke, builtin, Sem.run_bind, Sem.run_pure, Result.andThen_ok, List.map_toArray, List.map_cons, List.map_nil, e0.ev hx, e0.ev hy]
  have : ((List.length ([] : Bs) : Nat) : Int) = 0 := rfl
  rw [this, hr]
  rfl
 ·have hn : 0 < xs.length := List.length_pos_iff.2 h0
  obtain ⟨h1, o, s, k⟩ := hs1.upd
  obtain ⟨g0, cur, rfl, hg0, h3, h4, h5, h6⟩ := Q113 o hn
  have hgw := s g0 _ hg0
  simp only [wh] at hgw
  have hr := Lib.run_unsafeString_row (P := P) w t u ty e hp hc g0 cur.size (by simp [World.shape?, hgw]) xs h0 (by rw [h5]; show _ ≤ c * 1; omega) (by simp only [maxLen] at h4; omega) (fun j z hz => by
   have := (Q110 o s).cells (g := g0) rfl j (.int .u8 (z.toNat : Int)) (by
    rw [Q171]
    simp [Lib.strCells, hz])
   exact this)
  refine ⟨.string ⟨xs.toArray⟩, _, l', ?_, (k emp (fun _ => none) (w.freeze ⟨g0, 0, none⟩ xs.length) (fun _ => rfl) ?_ ?_ ?_ ?_ ?_ ?_ ?_).drop, h⟩
  ·simp only [execOp, resolve, invoke, builtin, Sem.run_bind, Sem.run_pure, Result.andThen_ok, List.map_toArray, List.map_cons, List.map_nil, e0.ev hx, e0.ev hy, hr]
  ·unfold World.freeze; split <;> rfl
  ·unfold World.freeze; split <;> rfl
  ·unfold World.freeze; split <;> rfl
  ·unfold World.freeze; split <;> exact Nat.le_refl _
  ·intro b o' hb hn'
   unfold World.freeze
   split
   ·exact hb
   ·have hne : g0 ≠ b := by
     rintro rfl
     rw [hg0] at hn'; cases hn'
    simp only [Array.getElem?_modify, if_neg hne, hb]
  ·intro b o' e'; cases e'
  ·intro b o' e'; cases e'
def byteOf (v : Int) : UInt8 := UInt8.ofNat v.toNat
theorem Q222 : ∀ (ns : List Int) (s : Bs), ns.foldl (fun (r : ByteArray) n => r.push (UInt8.ofNat n.toNat)) ⟨s.toArray⟩ = ⟨(s ++ ns.map byteOf).toArray⟩
 | [], s => by simp
 | v :: ns, s => by
  have := Q222 ns (s ++ [byteOf v])
  rw [List.foldl_cons, show (ByteArray.mk s.toArray).push (UInt8.ofNat v.toNat) = ⟨(s ++ [byteOf v]).toArray⟩ from by simp [ByteArray.push, byteOf], this, List.map_cons, List.append_assoc]
  rfl
theorem Q183 (k : IntKind) : ∀ zs : List Int, zs.flatMap (Fl.int k).enc = zs.map (Value.int k)
 | [] => rfl
 | a :: q => by rw [List.flatMap_cons, Q183 k q]; rfl
theorem Y.bytesStr {m : Nat} {zs : List Int} (f : Frt l (row (Fl.int .u8) e A m c zs) l') {src dst : Nat} {x : Operand} {ii jj kk : TI} (hi : ti P src = some ii) (hk : ii.k = .slice e) (he : ti P e = some jj) (hj : jj.k = .int .u8) (hd : ti P dst = some kk) (hs : kk.k = .string) (hx : ev env x = some (.slice A m c)) :
 Y P n ds R env l ⟨dd, .convert src dst x, ty, pos, af, g⟩ (.string ⟨(zs.map byteOf).toArray⟩) := fun a w e0 hsat => by
 obtain ⟨h', o, s⟩ := (hsat.frt f).head
 have hm := Q64 o
 subst hm
 have hr : (convert src dst (.slice A zs.length c)).run P w = .ok (.string ⟨(zs.map byteOf).toArray⟩) w := by
  rw [run_convert_bytes_string w src dst e A zs.length c ((Q10 hi).slice hk) ((Q10 he).int hj) ((Q10 hd).string hs)]
  by_cases h0 : zs = []
  ·subst h0
   rcases o.2 with ⟨rfl, _⟩ | ⟨g0, cur, rfl, hg, _⟩
   ·rfl
   ·have := run_bytesToString (P := P) w ⟨g0, 0, none⟩ 0 c [] rfl
    exact this
  ·have hn : 0 < zs.length := List.length_pos_iff.2 h0
   obtain ⟨g0, cur, rfl, hg, h3, h4, h5, h6⟩ := Q113 o hn
   have hl := run_loadCells_list (P := P) w ⟨g0, 0, none⟩ (zs.map (Value.int .u8)) (fun j v hv => (Q110 o s).cells (g := g0) rfl j v (by
    rw [Q183]; exact hv))
   rw [List.length_map] at hl
   have := run_bytesToString (P := P) w ⟨g0, 0, none⟩ zs.length c zs hl
   rw [this, show ByteArray.empty = ⟨([] : Bs).toArray⟩ from rfl, Q222, List.nil_append]
 simp only [execOp, e0.ev hx, Sem.run_bind, hr, Result.andThen, Sem.run_pure]
end
end Go.Bw
namespace Go.Bw
open Go Go.RowKit

section
variable {α : Type}
def ghole (T : Ow α) (e : Nat) (A : Option Addr) (n c : Nat) (xs : List α) (i : Int) (cs : List Value) : HProp := fun h =>
 ∃ css : List (Raw T.sz), (fun h => (css.length = xs.length ∧ (css[i.toNat]?).map (·.1) = some cs) ∧ stars (row (Fl.raw T.sz T.pos) e A n c css :: (gins T xs css).eraseIdx i.toNat) h) h
theorem sat.ghole {R : Res} {T : Ow α} {e : Nat} {A : Option Addr} {n c : Nat} {xs : List α} {i : Int} {cs : List Value} {l : List HProp} {w : World} :
 sat R (Bw.ghole T e A n c xs i cs :: l) w ↔ ∃ css : List (Raw T.sz), (css.length = xs.length ∧ (css[i.toNat]?).map (·.1) = some cs) ∧ sat R (row (Fl.raw T.sz T.pos) e A n c css :: ((gins T xs css).eraseIdx i.toNat ++ l)) w := by
 unfold Bw.ghole
 rw [sat.ex]
 constructor
 ·rintro ⟨bs, h⟩
  have hb := let ⟨_, o, _⟩ := h.head; o.1
  exact ⟨bs, hb, sat.flat.1 (h.imp fun h o => o.2)⟩
 ·rintro ⟨bs, hb, h⟩
  exact ⟨bs, (sat.flat.2 h).imp fun h o => ⟨hb, o⟩⟩
theorem Q198 {T : Ow α} {x : α} {r : Raw T.sz} : ∀ {xs : List α} {css : List (Raw T.sz)} {i : Nat}, gins T (xs.set i x) (css.set i r) = (gins T xs css).set i (T.own x r.1)
 | [], _, _ => by simp [gins]
 | _ :: _, [], _ => by simp [gins]
 | a :: xs, b :: css, 0 => by simp [gins]
 | a :: xs, b :: css, i + 1 => by
  have := Q198 (T := T) (x := x) (r := r) (xs := xs) (css := css) (i := i)
  simpa [gins] using this
theorem Q180 {T : Ow α} {r : Raw T.sz} : ∀ {xs : List α} {css : List (Raw T.sz)} {i : Nat}, (gins T xs (css.set i r)).eraseIdx i = (gins T xs css).eraseIdx i
 | [], _, _ => by simp [gins]
 | _ :: _, [], _ => by simp [gins]
 | a :: xs, b :: css, 0 => by simp [gins]
 | a :: xs, b :: css, i + 1 => by
  have := Q180 (T := T) (r := r) (xs := xs) (css := css) (i := i)
  simpa [gins] using this
end
section
variable {P : Program} [Tys P] {os : List Oper} {Q : Exit → Act → World → Prop} {rest : List Oper} {n : Nat} {ds : List Deferred} {R : Res} {env : List (Nat × Value)} {l l' : List HProp}
variable {d ty : Nat} {pos : String} {af : Array Edge} {g : Option (Nat × Bool)} {α : Type} {T : Ow α} {e t : Nat} {A : Option Addr} {c m : Nat} {xs : List α} {cs : List Value} {K : Act → World → Prop} {dd : Option Nat} {i : Int}
theorem At.openGrow [Inhabited α] (f : Frt l (grow T e A m c xs) l') (h0 : 0 ≤ i) (h1 : i < (m : Int)) (h : ∀ cs, At n ds R env (ghole T e A m c xs i cs :: T.own (gt xs i) cs :: l') K) : At n ds R env l K := fun a w e0 hs => by
 have hs1 := hs.frt f
 have hm : xs.length = m := let ⟨_, o, _⟩ := hs1.head; (Q108 o).1
 subst hm
 obtain ⟨css, hb, h2⟩ := sat.grow.1 hs1
 have hlt : i.toNat < css.length := by omega
 have hbi : css[i.toNat]? = some css[i.toNat] := List.getElem?_eq_getElem hlt
 refine h css[i.toNat].1 a w e0 (sat.ghole.2 ⟨css, ⟨hb, by rw [hbi]; rfl⟩, ?_⟩)
 have fr : Frt (row (Fl.raw T.sz T.pos) e A xs.length c css :: (gins T xs css ++ l')) (T.own (gt xs i) css[i.toNat].1) (row (Fl.raw T.sz T.pos) e A xs.length c css :: ((gins T xs css).eraseIdx i.toNat ++ l')) := .s (Q172 (Q169 (Q102 h0 h1) hbi))
 have fr2 : Frt (row (Fl.raw T.sz T.pos) e A xs.length c css :: ((gins T xs css).eraseIdx i.toNat ++ T.own (gt xs i) css[i.toNat].1 :: l')) (T.own (gt xs i) css[i.toNat].1) (row (Fl.raw T.sz T.pos) e A xs.length c css :: ((gins T xs css).eraseIdx i.toNat ++ l')) := .s (Q176 .z)
 exact (h2.frt fr).back fr2
theorem At.closeGrow {L M : List HProp} {z : α} (hl : l = ghole T e A m c xs i cs :: M) (ent : Ent L (T.own z cs)) (hM : M = L ++ l') (h : At n ds R env (grow T e A m c (Bw.st xs i z) :: l') K) : At n ds R env l K := fun a w e0 hs => by
 subst hl hM
 obtain ⟨css, ⟨hb, hbi⟩, h2⟩ := sat.ghole.1 hs
 obtain ⟨r, hr, rfl⟩ := Option.map_eq_some_iff.1 hbi
 have hlt : i.toNat < css.length := (List.getElem?_eq_some_iff.1 hr).1
 refine h a w e0 (sat.grow.2 ⟨css, by simp [Bw.st, hb], ?_⟩)
 have h3 : sat R (row (Fl.raw T.sz T.pos) e A m c css :: ((gins T xs css).eraseIdx i.toNat ++ T.own z r.1 :: l')) w := sat.tail (M := row (Fl.raw T.sz T.pos) e A m c css :: (gins T xs css).eraseIdx i.toNat) (fun h s => Q155 ent s) h2
 have hset : gins T (Bw.st xs i z) css = (gins T xs css).set i.toNat (T.own z r.1) := by
  have := Q198 (T := T) (x := z) (r := r) (xs := xs) (css := css) (i := i.toNat)
  have he : css.set i.toNat r = css := by
   apply List.ext_getElem?
   intro j
   rw [List.getElem?_set]
   split
   ·rename_i hj; subst hj; simp [hlt, hr]
    exact (List.getElem?_eq_some_iff.1 hr).2.symm
   ·rfl
  rw [he] at this
  exact this
 have fr : Frt (row (Fl.raw T.sz T.pos) e A m c css :: ((gins T xs css).eraseIdx i.toNat ++ T.own z r.1 :: l')) (T.own z r.1) (row (Fl.raw T.sz T.pos) e A m c css :: ((gins T xs css).eraseIdx i.toNat ++ l')) := .s (Q176 .z)
 have hlen : i.toNat < (gins T xs css).length := by simp [gins]; omega
 have fr2 : Frt (row (Fl.raw T.sz T.pos) e A m c css :: (gins T (Bw.st xs i z) css ++ l')) (T.own z r.1) (row (Fl.raw T.sz T.pos) e A m c css :: ((gins T xs css).eraseIdx i.toNat ++ l')) := .s (by
  have := Q172 (L := (gins T xs css).set i.toNat (T.own z r.1)) (i := i.toNat) (c := T.own z r.1) (l := l') (by simp [hlen])
  rw [Q194] at this
  rw [hset]
  exact this)
 exact (h3.frt fr).back fr2
theorem ghole_len {w : World} (f : Frt l (ghole T e A m c xs i cs) l') (hs : sat R l w) : xs.length = m := by
 obtain ⟨css, ⟨hb, _⟩, h2⟩ := sat.ghole.1 (hs.frt f)
 have : css.length = m := let ⟨_, o, _⟩ := h2.head; Q64 o
 omega
theorem Y.ixGHole (f : Frt l (ghole T e A m c xs i cs) l') {x y : Operand} {j : Int} {k : IntKind} {ii jj : TI} (hi : ti P t = some ii) (hk : ii.k = .slice e) (hx : ev env x = some (.slice A m c)) (hy : ev env y = some (.int k j)) (hj : ti P e = some jj) (hjs : jj.size = T.sz) (h0 : 0 ≤ j) (h1 : j < (m : Int)) :
 Y P n ds R env l ⟨dd, .indexAddr t x y, ty, pos, af, g⟩ (elp A (j.toNat * T.sz)) := fun a w e0 hs => by
 obtain ⟨css, ⟨hb, _⟩, h2⟩ := sat.ghole.1 (hs.frt f)
 have hm : css.length = m := let ⟨_, o, _⟩ := h2.head; Q64 o
 subst hm
 exact Y.ixOwn (F := Fl.raw T.sz T.pos) .z hi hk hx hy hj hjs h0 h1 a w e0 h2
theorem sat_gsome {w : World} (f : Frt l (ghole T e A m c xs i cs) l') (h0 : 0 ≤ i) (h1 : i < (m : Int)) (hs : sat R l w) : ∃ ad, A = some ad := by
 obtain ⟨css, ⟨hb, _⟩, h2⟩ := sat.ghole.1 (hs.frt f)
 have hm : css.length = m := let ⟨_, o, _⟩ := h2.head; Q64 o
 subst hm
 exact Q148 h2 h0 h1
theorem Y.faGHole {s fi k off ft : Nat} {fs : List (Nat × Nat)} {x : Operand} {ii j : TI} (f : Frt l (ghole T e A m c xs i cs) l') (h0 : 0 ≤ i) (h1 : i < (m : Int)) (hi : ti P s = some ii) (hk : ii.k = .struct fs) (hf : fs[fi]? = some (ft, off)) (hj : ti P ft = some j) (hz : Nat.beq j.size 0 = false)
 (hx : ev env x = some (elp A k)) : Y P n ds R env l ⟨dd, .fieldAddr s x fi, ty, pos, af, g⟩ (elp A (k + off)) := fun a w e0 hs =>
 Y.fa (sat_gsome f h0 h1 hs) hi hk hf hj hz hx a w e0 hs
theorem Y.ldGHole (f : Frt l (ghole T e A m c xs i cs) l') {x : Operand} {q : Nat} {v : Value} {ii : TI} (hi : ti P t = some ii) (hx : ev env x = some (elp A (i.toNat * T.sz + q))) (h0 : 0 ≤ i) (h1 : i < (m : Int)) (hl : Nat.ble (q + ii.size) T.sz = true) (hz : Nat.blt 0 ii.size = true) (hv : partOf P t q cs = some v) :
 Y P n ds R env l ⟨dd, .load t x, ty, pos, af, g⟩ v := fun a w e0 hs => by
 obtain ⟨css, ⟨hb, hbi⟩, h2⟩ := sat.ghole.1 (hs.frt f)
 obtain ⟨r, hr, rfl⟩ := Option.map_eq_some_iff.1 hbi
 have hm : css.length = m := let ⟨_, o, _⟩ := h2.head; Q64 o
 subst hm
 have hg : gt css i = r := by unfold gt; rw [List.getD_eq_getElem?_getD, hr]; rfl
 refine Y.ldOwn (F := Fl.raw T.sz T.pos) (q := q) (dd := dd) .z hi hx h0 h1 hl hz ?_ a w e0 h2
 rw [hg]
 exact hv
theorem At.stGHole (hg : grd os env g = some true) (f : Frt l (ghole T e A m c xs i cs) l') {x y : Operand} {q : Nat} {v : Value} {vs cs' : List Value} {ii : TI} (hi : ti P t = some ii) (hx : ev env x = some (elp A (i.toNat * T.sz + q))) (hy : ev env y = some v)
 (h0 : 0 ≤ i) (h1 : i < (m : Int)) (hv : v.cells.toList = vs) (hs : Nat.beq vs.length ii.size = true) (p : Put cs q vs cs') (ho : vs.all (·.oneCell') = true)
 (h : At n ds R env (ghole T e A m c xs i cs' :: l') (wpList P os.toArray Q rest)) : At n ds R env l (wpList P os.toArray Q (⟨none, .store t x y, ty, pos, af, g⟩ :: rest)) := fun a w e0 hs0 => by
 obtain ⟨css, ⟨hb, hbi⟩, h2⟩ := sat.ghole.1 (hs0.frt f)
 obtain ⟨r, hr, rfl⟩ := Option.map_eq_some_iff.1 hbi
 have hm : css.length = m := let ⟨_, o, _⟩ := h2.head; Q64 o
 subst hm
 have hlt : i.toNat < css.length := (List.getElem?_eq_some_iff.1 hr).1
 have hgt : gt css i = r := by unfold gt; rw [List.getD_eq_getElem?_getD, hr]; rfl
 obtain ⟨p1, p2⟩ := p.eq
 have hlen : cs'.length = T.sz := by
  rw [p2]
  have := r.2.1
  simp
  omega
 let r' : Raw T.sz := ⟨cs', hlen, fun u hu => by
  rw [p2] at hu
  rcases List.mem_append.1 hu with hu | hu
  ·rcases List.mem_append.1 hu with hu | hu
   ·exact r.2.2 u (List.mem_of_mem_take hu)
   ·exact List.all_eq_true.1 ho u hu
  ·exact r.2.2 u (List.mem_of_mem_drop hu)⟩
 refine At.st (F := Fl.raw T.sz T.pos) (z := r') hg .z hi hx hy h0 h1 hv hs (by rw [hgt]; exact p) ?_ a w e0 h2
 intro a w e0 hs3
 refine h a w e0 (sat.ghole.2 ⟨Bw.st css i r', ⟨by simp [Bw.st, hb], by simp [Bw.st, hlt]; rfl⟩, ?_⟩)
 have : (gins T xs (Bw.st css i r')).eraseIdx i.toNat = (gins T xs css).eraseIdx i.toNat := Q180
 rw [this]
 exact hs3
theorem At.ownSpl {β : Type} {F : Fl β} {e : Nat} {p : List β × List β} {cs : List Value} (f : Frt l ((Ow.spl F e).own p cs) l') (h : ∀ A c, cs = [.slice A p.1.length c] → At n ds R env (row F e A (p.1 ++ p.2).length c (p.1 ++ p.2) :: l') K) : At n ds R env l K := fun a w e0 hs => by
 obtain ⟨ok, k, ⟨h1, h2, ⟨A, c, e1, r⟩, s⟩, dR⟩ := hs.frt f
 exact h A c e1 a w e0 ⟨ok, k, ⟨h1, h2, r, s⟩, dR⟩
theorem At.ownSplV {β : Type} {F : Fl β} {e : Nat} {p : List β × List β} {cs : List Value} (f : Frt l ((Ow.spl F e).own p cs) l') (h : ∀ A c, cs = [.slice A ((p.1 ++ p.2).take p.1.length).length c] → At n ds R env (row F e A (p.1 ++ p.2).length c (p.1 ++ p.2) :: l') K) : At n ds R env l K :=
 At.ownSpl f fun A c hc => h A c (by rw [hc, List.take_left])
theorem Ent.spn {β : Type} (F : Fl β) {e : Nat} {A : Option Addr} {n c k m : Nat} {zs : List β} (h : (zs.take k).length = m) : Ent [row F e A n c zs] ((Ow.spl F e).own (zs.take k, zs.drop k) [.slice A m c]) := by
 subst h
 exact Ent.spv F k
section
variable {β : Type} [Inhabited β] {F : Fl β} {ys : List β}
theorem Y.ixView (f : Frt l (row F e A m c ys) l') {x y : Operand} {j : Int} {k : IntKind} {m' c' : Nat} {ii jj : TI} (hi : ti P t = some ii) (hk : ii.k = .slice e) (hx : ev env x = some (.slice A m' c')) (hy : ev env y = some (.int k j)) (hj : ti P e = some jj) (hjs : jj.size = F.sz) (h0 : 0 ≤ j) (h1 : j < (m' : Int)) (h2 : j < (m : Int)) :
 Y P n ds R env l ⟨dd, .indexAddr t x y, ty, pos, af, g⟩ (elp A (j.toNat * F.sz)) := fun a w e0 hs => by
 have hs1 := hs.frt f
 have hm : ys.length = m := let ⟨_, o, _⟩ := hs1.head; Q64 o
 subst hm
 obtain ⟨ad, rfl⟩ := Q148 hs1 h0 h2
 simp only [execOp, e0.ev hx, e0.ev hy, Instr.indexAt, asIntOf, Sem.run_bind, Sem.run_pure, Result.andThen, run_underlying ((Q10 hi).slice hk), Sem.run_ite, if_pos (show 0 ≤ j ∧ j < (m' : Int) from ⟨h0, h1⟩), (Q10 hj).run_sizeOf, hjs, elp]
theorem Y.slView (f : Frt l (row F e A m c ys) l') {x y : Operand} {k : Int} {ki : IntKind} {m' : Nat} {ii : TI} (hi : ti P t = some ii) (hk : ii.k = .slice e) {j : TI} (hj : ti P e = some j) (hx : ev env x = some (.slice A m' c)) (hy : ev env y = some (.int ki k)) (h0 : 0 ≤ k) (h1 : k ≤ (m : Int)) :
 Y P n ds R env l ⟨dd, .slice t x none (some y) none, ty, pos, af, g⟩ (.slice A (ys.take k.toNat).length c) := fun a w e0 hs => by
 obtain ⟨_, o, _⟩ := (hs.frt f).head
 have hm := Q64 o
 subst hm
 exact Y.slFull (zs := ys) (Q115 o) hi hk hj hx hy h0 h1 a w e0 hs
end
end
def Rep.Le {α β : Type} (T : Rep α) (U : Rep β) (f : α → β) : Prop := T.sz = U.sz ∧ ∀ H x cs, T.K H x cs → U.K H (f x) cs
theorem Rep.Le.refl {α : Type} (T : Rep α) : Rep.Le T T id := ⟨rfl, fun _ _ _ h => h⟩
theorem Rep.Le.sp {α : Type} (T : Rep α) : Rep.Le T.sp T.slice (·.1) := ⟨rfl, fun H p cs ⟨A, c, h2, h3, h4⟩ => ⟨A, c, h2, by show p.1.length ≤ c; simp at h3; omega, h4.pre⟩⟩
theorem Rep.Le.pair {α β γ δ : Type} {T : Rep α} {U : Rep β} {T' : Rep γ} {U' : Rep δ} {f : α → β} {g : γ → δ} (h : Rep.Le T U f) (k : Rep.Le T' U' g) : Rep.Le (T.pair T') (U.pair U') (fun p => (f p.1, g p.2)) :=
 ⟨by show T.sz + T'.sz = U.sz + U'.sz; rw [h.1, k.1], fun H p cs ⟨c1, c2, e, a, b⟩ => ⟨c1, c2, e, h.2 _ _ _ a, k.2 _ _ _ b⟩⟩
theorem RdS.le {α β : Type} {T : Rep α} {U : Rep β} {f : α → β} (h : Rep.Le T U f) {H : PHeap} {A : Option Addr} {xs : List α} (hr : RdS T H A xs) : RdS U H A (xs.map f) := fun i x hx => by
 rw [List.getElem?_map] at hx
 obtain ⟨p, hp, rfl⟩ := Option.map_eq_some_iff.1 hx
 obtain ⟨ad, cs, h1, h2, h3⟩ := hr i p hp
 exact ⟨ad, cs, h1, h.2 _ _ _ h2, by rw [← h.1]; exact h3⟩
end Go.Bw
namespace Go.Bw
open Go Go.RowKit Go.Proofs
structure Q6 where
 Name : Bs
 States : List Int × List Int
deriving Inhabited
def Q6.rep : Rep Q6 := ((Fl.bs.rep).pair (((Fl.int .i64).rep).sp)).iso (fun x => (x.Name, x.States))
def Q6.ow : Ow Q6 := ((Ow.fl Fl.bs).pair (Ow.spl (Fl.int .i64) 3)).iso (fun x => (x.Name, x.States))
def Q6.pl (x : Q6) : Q1 := ⟨x.Name, x.States.1⟩
theorem Q6.le : Rep.Le Q6.rep Q1.rep Q6.pl := ⟨rfl, fun H x cs h => (((Rep.Le.refl Fl.bs.rep).pair (Rep.Le.sp (Fl.int .i64).rep))).2 H (x.Name, x.States) cs h⟩
theorem Q6.ent {x0 : Bs} {A1 : Option Addr} {n1 c1 k1 : Nat} {x1 : List Int} : Ent [row (Fl.int .i64) 3 A1 n1 c1 x1] (Q6.ow.own ⟨x0, (x1.take k1, x1.drop k1)⟩ [.string ⟨(x0).toArray⟩, .slice A1 (x1.take k1).length c1]) := (Ent.pair (c1 := [.string ⟨(x0).toArray⟩]) (c2 := [.slice A1 (x1.take k1).length c1]) (Ent.fl Fl.bs rfl) (Ent.spv (Fl.int .i64) k1))
theorem abi_NoEscape.ext : ExtOk Tryz.prog 136 Extern.AbiNoEscape.same := ⟨_, Tryz.func136, by kernel_rfl, by kernel_rfl, by kernel_rfl, by kernel_rfl⟩

noncomputable def Q61.l0b (a0_3 : List Q1) (x899 : List Q6) (x904 : Int) : Option (((List Q6) × Int) ⊕ (((List Q6)) ⊕ ((List Q6) × Int))) :=
 if x904 < (a0_3.length : Int) then
 if (0 : Int) ≤ x904 ∧ x904 < (a0_3.length : Int) then
 if (([] : List Int).length + (gt a0_3 x904).States.length) * 8 ≤ 140737488355328 then
 if ((([] : List Int) ++ (gt a0_3 x904).States).length + ([(-7)] : List Int).length) * 8 ≤ 140737488355328 then
 if (0 : Int) ≤ ((gt a0_3 x904).States.length : Int) ∧ ((gt a0_3 x904).States.length : Int) ≤ (((([] : List Int) ++ (gt a0_3 x904).States) ++ ([(-7)] : List Int)).length : Int) then
 if (x899.length + 1) * 40 ≤ 140737488355328 then
 nx ((x899 ++ [(⟨((gt a0_3 x904).Name), (((([] : List Int) ++ (gt a0_3 x904).States) ++ ([(-7)] : List Int)).take (((gt a0_3 x904).States.length : Int).toNat), ((([] : List Int) ++ (gt a0_3 x904).States) ++ ([(-7)] : List Int)).drop (((gt a0_3 x904).States.length : Int).toNat))⟩ : Q6)]), IntKind.i64.wrap (x904 + 1))
 else none
 else none
 else none
 else none
 else none
 else
 dn (.inl x899)
noncomputable def Q61.l0 (a0_3 : List Q1) (x899 : List Q6) (x904 : Int) : Option (((List Q6)) ⊕ ((List Q6) × Int)) := iter (fun t_ : (List Q6) × Int => Q61.l0b a0_3 t_.1 t_.2) (x899, x904)
noncomputable def Q61.f (a0_0 : Int) (a0_1 : List Bs) (a0_2 : List Q0) (a0_3 : List Q1) : Option ((List Q6) × Int) :=
 if (([] : List Bs).length + a0_1.length) * 16 ≤ 140737488355328 then
 if ((([] : List Bs) ++ a0_1).length + ([([33] : Bs)] : List Bs).length) * 16 ≤ 140737488355328 then
 if (([] : List Q0).length + a0_2.length) * 24 ≤ 140737488355328 then
 if ((([] : List Q0) ++ a0_2).length + ([(⟨(-7), 0, 0⟩ : Q0)] : List Q0).length) * 24 ≤ 140737488355328 then
 if (0 : Int) ≤ (a0_1.length : Int) ∧ (a0_1.length : Int) ≤ (((([] : List Bs) ++ a0_1) ++ ([([33] : Bs)] : List Bs)).length : Int) then
 if (0 : Int) ≤ (a0_2.length : Int) ∧ (a0_2.length : Int) ≤ (((([] : List Q0) ++ a0_2) ++ ([(⟨(-7), 0, 0⟩ : Q0)] : List Q0)).length : Int) then
 jn (Q61.l0 a0_3 ([] : List Q6) 0) (fun (x1105 : List Q6) =>
 some (x1105, a0_0))
 else none
 else none
 else none
 else none
 else none
 else none
theorem Q61.callee : Callee Tryz.prog 25 := ⟨_, Tryz.func25, by kernel_rfl, by kernel_rfl⟩
theorem Q61.spec (R : Res) (Fr : List HProp) (A0_1 : Option Addr) (n0_1 : Nat) (c0_1 : Nat) (A0_2 : Option Addr) (n0_2 : Nat) (c0_2 : Nat) (A0_3 : Option Addr) (n0_3 : Nat) (c0_3 : Nat) (a0_0 : Int) (a0_1 : List Bs) (a0_2 : List Q0) (a0_3 : List Q1) (hr0_1 : RdS Fl.bs.rep R.heap A0_1 a0_1) (hn0_1 : a0_1.length = n0_1) (hc0_1 : n0_1 ≤ c0_1) (hr0_2 : RdS Q0.fl.rep R.heap A0_2 a0_2) (hn0_2 : a0_2.length = n0_2) (hc0_2 : n0_2 ≤ c0_2) (hr0_3 : RdS Q1.rep R.heap A0_3 a0_3) (hn0_3 : a0_3.length = n0_3) (hc0_3 : n0_3 ≤ c0_3) {r : (List Q6) × Int} (j : Q61.f a0_0 a0_1 a0_2 a0_3 = some r) :
 Spec Tryz.prog 25 [.agg #[.int .i64 a0_0, .slice A0_1 n0_1 c0_1, .slice A0_2 n0_2 c0_2, .slice A0_3 n0_3 c0_3]] R (Fr) (fun v l' => ∃ (w253 : Nat) (w255 : Option Addr) (w256 : Nat) (w258 : Option Addr) (w259 : Nat) (w260 : Option Addr) (w261 : Nat), v = .agg #[.int .i64 r.2, .slice w260 ((((([] : List Bs) ++ a0_1) ++ ([([33] : Bs)] : List Bs)).take (n0_1 : Int).toNat).length) w261, .slice w258 ((((([] : List Q0) ++ a0_2) ++ ([(⟨(-7), 0, 0⟩ : Q0)] : List Q0)).take (n0_2 : Int).toNat).length) w259, .slice w255 w253 w256] ∧ row Fl.bs 9 w260 (((([] : List Bs) ++ a0_1) ++ ([([33] : Bs)] : List Bs)).length) w261 ((([] : List Bs) ++ a0_1) ++ ([([33] : Bs)] : List Bs)) :: row Q0.fl 35 w258 (((([] : List Q0) ++ a0_2) ++ ([(⟨(-7), 0, 0⟩ : Q0)] : List Q0)).length) w259 ((([] : List Q0) ++ a0_2) ++ ([(⟨(-7), 0, 0⟩ : Q0)] : List Q0)) :: grow Q6.ow 37 w255 w253 w256 r.1 :: Fr = l' ∧ r.1.length = w253) := by
 subst hn0_1; subst hn0_2; subst hn0_3; refine Spec.of Tryz.func25 rfl rfl ?_; unfold Q61.f at j; have j := brun j; refine At.seq (At.region ?_); refine At.box rfl rfl (cs := [.int .i64 a0_0, .slice A0_1 a0_1.length c0_1, .slice A0_2 a0_2.length c0_2, .slice A0_3 a0_3.length c0_3]) rfl rfl (fun b264 => ?_); refine At.alloc rfl rfl rfl (fun b265 => ?_); refine At.nil (At.thn (At.seq (At.region (At.run 1 rfl (At.y (Y.load rfl rfl (.s .z) rfl rfl rfl) rfl rfl rfl ?_))))); refine At.y (Y.build (is := [0]) (xo := [.tmp 9]) (vs := [.int .i64 a0_0]) (cs := [.int .i64 a0_0, .slice none 0 0, .slice none 0 0, .slice none 0 0]) rfl rfl rfl rfl rfl rfl) rfl rfl rfl ?_; refine At.alloc rfl rfl rfl (fun b266 => ?_); refine At.store rfl rfl rfl rfl .z rfl rfl rfl (.c (.c (.c (.c .n)))) ?_; refine At.nil (At.thn (At.seq (At.region ?_))); refine At.lit rfl (xo := []) (ys := ([] : List Bs)) Fl.bs rfl rfl rfl rfl rfl rfl rfl rfl rfl rfl rfl (fun A267 c268 => ?_); refine At.run 1 rfl (At.y (Y.load rfl rfl (.s (.s (.s .z))) rfl rfl rfl) rfl rfl rfl ?_); obtain ⟨h270, j⟩ := bnone j; refine At.appendAll rfl .z (SrcE.rd hr0_1) rfl rfl rfl rfl rfl rfl rfl rfl rfl h270 (by decide) rfl (fun A271 c272 => ?_); refine At.lit rfl (xo := [.const (.string ⟨#[33]⟩)]) (ys := ([([33] : Bs)] : List Bs)) Fl.bs rfl rfl rfl rfl rfl rfl rfl rfl rfl rfl rfl (fun A273 c274 => ?_); obtain ⟨h276, j⟩ := bnone j; refine At.append rfl (.s .z) (Src.own .z (by simp)) rfl rfl rfl rfl rfl rfl rfl rfl h276 (by decide) rfl (fun A277 c278 => ?_); refine At.drop (.s .z) (At.run 1 rfl (At.nil (At.thn (At.seq (At.region ?_))))); refine At.lit rfl (xo := []) (ys := ([] : List Q0)) Q0.fl rfl rfl rfl rfl rfl rfl rfl rfl rfl rfl rfl (fun A279 c280 => ?_); refine At.run 1 rfl ?_; refine At.y (Y.load rfl rfl (.s (.s (.s (.s .z)))) rfl rfl rfl) rfl rfl rfl ?_; obtain ⟨h282, j⟩ := bnone j; refine At.appendAll rfl .z (SrcE.rd hr0_2) rfl rfl rfl rfl rfl rfl rfl rfl rfl h282 (by decide) rfl (fun A283 c284 => ?_); refine At.y (Y.build (is := [0]) (xo := [.const (.int .i64 (-7))]) (vs := [.int .i64 (-7)]) (cs := [.int .i64 (-7), .int .i64 0, .int .i64 0]) rfl rfl rfl rfl rfl rfl) rfl rfl rfl ?_; refine At.lit rfl (xo := [.tmp 21]) (ys := ([(⟨(-7), 0, 0⟩ : Q0)] : List Q0)) Q0.fl rfl rfl rfl rfl rfl rfl rfl rfl rfl rfl rfl (fun A285 c286 => ?_); obtain ⟨h288, j⟩ := bnone j; refine At.append rfl (.s .z) (Src.own .z (by simp)) rfl rfl rfl rfl rfl rfl rfl rfl h288 (by decide) rfl (fun A289 c290 => ?_); refine At.drop (.s .z) (At.run 1 rfl (At.nil (At.thn (At.seq (At.region (At.run 2 rfl ?_)))))); refine At.y (Y.load rfl rfl (.s (.s (.s (.s .z)))) rfl rfl rfl) rfl rfl rfl ?_; refine At.run 1 rfl ?_; obtain ⟨h291, j⟩ := bnone j; refine At.y (Y.slOwn (.s .z) rfl rfl rfl rfl rfl h291.1 h291.2) rfl rfl rfl ?_; refine At.run 1 rfl ?_; refine At.store rfl rfl rfl rfl (.s (.s .z)) rfl rfl rfl (.s (.c .n)) ?_; refine At.nil (At.thn (At.seq (At.region (At.run 2 rfl ?_)))); refine At.y (Y.load rfl rfl (.s (.s (.s (.s .z)))) rfl rfl rfl) rfl rfl rfl ?_; refine At.run 1 rfl ?_; obtain ⟨h292, j⟩ := bnone j; refine At.y (Y.slOwn (.s .z) rfl rfl rfl rfl rfl h292.1 h292.2) rfl rfl rfl ?_; refine At.run 1 rfl ?_; refine At.store rfl rfl rfl rfl .z rfl rfl rfl (.s (.s (.c .n))) ?_; refine At.nil (At.thn (At.seq (At.seq (At.region (At.run 1 rfl (At.nil (At.thn ?_))))))); refine At.block ?_; obtain ⟨G1110, hl1111, hr1112, j⟩ := bjoin j; obtain ⟨o1113, hlo1114, ho1115⟩ := bsome j; clear j; unfold Q61.l0 at hlo1114; obtain ⟨m1116, hit1118⟩ := Q17.1 hlo1114; clear hlo1114; refine At.nilGrow Q6.ow 37 ?_; refine At.loopJ (X := (List Q6) × Int × Nat × (Option Addr) × Nat) (Y := (List Q6) × Nat × (Option Addr) × Nat) (e0 := 0) (fun s_ => [(1, .pointer (some ⟨b264, 0, none⟩)), (2, .pointer (some ⟨b265, 0, none⟩)), (3, .pointer (some ⟨b266, 0, none⟩)), (6, .int .i64 s_.2.1)]) (fun s_ => grow Q6.ow 37 s_.2.2.2.1 s_.2.2.1 s_.2.2.2.2 s_.1 :: pt b266 (.cells [.int .i64 a0_0, .slice A277 ((((([] : List Bs) ++ a0_1) ++ ([([33] : Bs)] : List Bs)).take (a0_1.length : Int).toNat).length) c278, .slice A289 ((((([] : List Q0) ++ a0_2) ++ ([(⟨(-7), 0, 0⟩ : Q0)] : List Q0)).take (a0_2.length : Int).toNat).length) c290, .slice s_.2.2.2.1 s_.2.2.1 s_.2.2.2.2].toArray 26) :: row Q0.fl 35 A289 (((([] : List Q0) ++ a0_2) ++ ([(⟨(-7), 0, 0⟩ : Q0)] : List Q0)).length) c290 ((([] : List Q0) ++ a0_2) ++ ([(⟨(-7), 0, 0⟩ : Q0)] : List Q0)) :: row Fl.bs 9 A277 (((([] : List Bs) ++ a0_1) ++ ([([33] : Bs)] : List Bs)).length) c278 ((([] : List Bs) ++ a0_1) ++ ([([33] : Bs)] : List Bs)) :: pt b265 (.cells [.int .i64 0, .slice none 0 0, .slice none 0 0, .slice none 0 0].toArray 26) :: pt b264 (.cells [.int .i64 a0_0, .slice A0_1 a0_1.length c0_1, .slice A0_2 a0_2.length c0_2, .slice A0_3 a0_3.length c0_3].toArray 26) :: Fr) (fun m_ => fun s_ => iterN (fun t_ : (List Q6) × Int => Q61.l0b a0_3 t_.1 t_.2) m_ (s_.1, s_.2.1) = some o1113 ∧ s_.1.length = s_.2.2.1) m1116 (([] : List Q6), 0, 0, none, 0) ⟨hit1118, rfl⟩ (fun s_ => [(2, .pointer (some ⟨b265, 0, none⟩)), (3, .pointer (some ⟨b266, 0, none⟩))]) (fun s_ => grow Q6.ow 37 s_.2.2.1 s_.2.1 s_.2.2.2 s_.1 :: pt b266 (.cells [.int .i64 a0_0, .slice A277 ((((([] : List Bs) ++ a0_1) ++ ([([33] : Bs)] : List Bs)).take (a0_1.length : Int).toNat).length) c278, .slice A289 ((((([] : List Q0) ++ a0_2) ++ ([(⟨(-7), 0, 0⟩ : Q0)] : List Q0)).take (a0_2.length : Int).toNat).length) c290, .slice s_.2.2.1 s_.2.1 s_.2.2.2].toArray 26) :: row Q0.fl 35 A289 (((([] : List Q0) ++ a0_2) ++ ([(⟨(-7), 0, 0⟩ : Q0)] : List Q0)).length) c290 ((([] : List Q0) ++ a0_2) ++ ([(⟨(-7), 0, 0⟩ : Q0)] : List Q0)) :: row Fl.bs 9 A277 (((([] : List Bs) ++ a0_1) ++ ([([33] : Bs)] : List Bs)).length) c278 ((([] : List Bs) ++ a0_1) ++ ([([33] : Bs)] : List Bs)) :: pt b265 (.cells [.int .i64 0, .slice none 0 0, .slice none 0 0, .slice none 0 0].toArray 26) :: pt b264 (.cells [.int .i64 a0_0, .slice A0_1 a0_1.length c0_1, .slice A0_2 a0_2.length c0_2, .slice A0_3 a0_3.length c0_3].toArray 26) :: Fr) (fun s_ => G1110 (.inl s_.1) = some r ∧ s_.1.length = s_.2.1) (fun a w e hs => ⟨e.sub ⟨rfl, rfl, rfl, rfl, trivial⟩, (by exact hs)⟩) ?_ (fun J1120 => ?_)
 ·rintro ⟨x1105, w1106, w1108, w1109⟩ ⟨j, hn1107⟩; obtain rfl : x1105.length = w1106 := hn1107; have j := (hl1111 _).symm.trans j
  ·refine At.ibx ?_; refine At.thn (At.seq (At.region (At.y (Y.load rfl rfl (.s .z) rfl rfl rfl) rfl rfl rfl ?_))); refine At.store rfl rfl rfl rfl (.s (.s (.s (.s .z)))) rfl rfl rfl (.c (.c (.c (.c .n)))) ?_; refine At.nil (At.thn (At.ret ?_)); refine At.resM (.inl rfl) rfl (RV.cell rfl rfl .z rfl rfl rfl RV.nil) ?_; refine At.drop .z (At.drop (.s .z) (At.drop (.s (.s (.s .z))) (At.f1 (At.f2 ?_)))); cases bret j; exact fun a w e hs => ⟨_, ⟨x1105.length, w1108, w1109, A289, c290, A277, c278, rfl, rfl, rfl⟩, hs⟩
 ·clear hit1118 m1116; rintro m1116 ⟨x899, x904, w900, w902, w903⟩ ⟨hit1118, hn901⟩; obtain rfl : x899.length = w900 := hn901; obtain ⟨m1117, f_, hlt1119, hf_, j⟩ := bit hit1118; clear hit1118; have j : (Q61.l0b a0_3 x899 x904).bind _ = some o1113 := j; unfold Q61.l0b at j
  ·refine At.seq (At.seq (At.region (At.run 2 rfl ?_))); refine At.y (Y.load rfl rfl (.s (.s (.s (.s (.s .z))))) rfl rfl rfl) rfl rfl rfl ?_; refine At.run 2 rfl (At.nil (At.thn ?_)); rcases bite j with ⟨h1121, j⟩ | ⟨h1121, j⟩
   ··refine At.condT rfl (decide_eq_true h1121) ?_
     refine At.skip (At.thn (At.seq ?_)); refine At.block ?_; refine At.seq (At.region ?_); refine At.lit rfl (xo := []) (ys := ([] : List Int)) (Fl.int .i64) rfl rfl rfl rfl rfl rfl rfl rfl rfl rfl rfl (fun A1122 c1123 => ?_); refine At.run 1 rfl ?_; refine At.y (Y.load rfl rfl (.s (.s (.s (.s (.s (.s .z)))))) rfl rfl rfl) rfl rfl rfl ?_; refine At.run 1 rfl ?_; obtain ⟨h1125, j⟩ := bnone j; refine At.y (Y.ixRd hr0_3 rfl rfl rfl rfl rfl rfl rfl h1125.1 h1125.2) rfl rfl rfl ?_; refine At.y (Y.fa (RdS.some_ hr0_3 rfl h1125.1 h1125.2) rfl rfl rfl rfl rfl rfl) rfl rfl rfl ?_; obtain ⟨A1126, c1127, hc1128, hr1129, hy1130⟩ := RdS.prjSl (P := Tryz.prog) Q1.prj_States hr0_3 (Sub.refl _) rfl h1125.1 h1125.2; refine At.y (hy1130 rfl rfl rfl rfl) rfl rfl rfl ?_; obtain ⟨h1131, j⟩ := bnone j; refine At.appendAll rfl .z (SrcE.rd hr1129) rfl rfl rfl rfl rfl rfl rfl rfl rfl h1131 (by decide) rfl (fun A1132 c1133 => ?_); refine At.lit rfl (xo := [.const (.int .i64 (-7))]) (ys := ([(-7)] : List Int)) (Fl.int .i64) rfl rfl rfl rfl rfl rfl rfl rfl rfl rfl rfl (fun A1134 c1135 => ?_); obtain ⟨h1137, j⟩ := bnone j; refine At.append rfl (.s .z) (Src.own .z (by simp)) rfl rfl rfl rfl rfl rfl rfl rfl h1137 (by decide) rfl (fun A1138 c1139 => ?_); refine At.drop (.s .z) (At.run 1 rfl (At.nil (At.thn ?_))); refine At.held [row Q0.fl 35 A289 (((([] : List Q0) ++ a0_2) ++ ([(⟨(-7), 0, 0⟩ : Q0)] : List Q0)).length) c290 ((([] : List Q0) ++ a0_2) ++ ([(⟨(-7), 0, 0⟩ : Q0)] : List Q0)), row Fl.bs 9 A277 (((([] : List Bs) ++ a0_1) ++ ([([33] : Bs)] : List Bs)).length) c278 ((([] : List Bs) ++ a0_1) ++ ([([33] : Bs)] : List Bs)), pt b265 (.cells [.int .i64 0, .slice none 0 0, .slice none 0 0, .slice none 0 0].toArray 26), pt b264 (.cells [.int .i64 a0_0, .slice A0_1 a0_1.length c0_1, .slice A0_2 a0_2.length c0_2, .slice A0_3 a0_3.length c0_3].toArray 26)] 22 rfl ?_; refine At.H.pw 0 rfl rfl rfl rfl rfl (.c (.s (.s (.s .z))) (.c (.s (.s (.s .z))) (.c (.s (.s (.s .z))) (.c (.s (.s (.s .z))) .n)))) ?_; refine At.H.pw 2 rfl rfl rfl rfl rfl (.c (.s (.s (.s .z))) (.c (.s (.s (.s .z))) (.c (.s (.s (.s .z))) (.c (.s (.s (.s .z))) .n)))) ?_; refine At.H.tw 3 rfl (Y.load rfl rfl (.s (.s (.s .z))) rfl rfl rfl) rfl rfl rfl (.c (.s (.s (.s .z))) (.c (.s (.s (.s .z))) (.c (.s (.s (.s .z))) (.c (.s (.s (.s .z))) .n)))) ?_; refine At.H.pw 4 rfl rfl rfl rfl rfl (.c (.s (.s (.s .z))) (.c (.s (.s (.s .z))) (.c (.s (.s (.s .z))) (.c (.s (.s (.s .z))) .n)))) ?_; refine At.H.tw 5 rfl (Y.ixRd hr0_3 rfl rfl rfl rfl rfl rfl rfl h1125.1 h1125.2) rfl rfl rfl (.c (.s (.s (.s .z))) (.c (.s (.s (.s .z))) (.c (.s (.s (.s .z))) (.c (.s (.s (.s .z))) .n)))) ?_; refine At.H.tw 6 rfl (Y.fa (RdS.some_ hr0_3 rfl h1125.1 h1125.2) rfl rfl rfl rfl rfl rfl) rfl rfl rfl (.c (.s (.s (.s .z))) (.c (.s (.s (.s .z))) (.c (.s (.s (.s .z))) (.c (.s (.s (.s .z))) .n)))) ?_; refine At.H.tw 7 rfl (Y.ldPrj Q1.prj_Name hr0_3 rfl rfl rfl h1125.1 h1125.2 rfl rfl) rfl rfl rfl (.c (.s (.s (.s .z))) (.c (.s (.s (.s .z))) (.c (.s (.s (.s .z))) (.c (.s (.s (.s .z))) .n)))) ?_; refine At.H.pw 8 rfl rfl rfl rfl rfl (.c (.s (.s (.s .z))) (.c (.s (.s (.s .z))) (.c (.s (.s (.s .z))) (.c (.s (.s (.s .z))) .n)))) ?_; refine At.H.pw 9 rfl rfl rfl rfl rfl (.c (.s (.s (.s .z))) (.c (.s (.s (.s .z))) (.c (.s (.s (.s .z))) (.c (.s (.s (.s .z))) .n)))) ?_; refine At.H.tw 10 rfl (Y.load rfl rfl (.s (.s (.s .z))) rfl rfl rfl) rfl rfl rfl (.c (.s (.s (.s .z))) (.c (.s (.s (.s .z))) (.c (.s (.s (.s .z))) (.c (.s (.s (.s .z))) .n)))) ?_; refine At.H.pw 11 rfl rfl rfl rfl rfl (.c (.s (.s (.s .z))) (.c (.s (.s (.s .z))) (.c (.s (.s (.s .z))) (.c (.s (.s (.s .z))) .n)))) ?_; refine At.H.tw 12 rfl (Y.ixRd hr0_3 rfl rfl rfl rfl rfl rfl rfl h1125.1 h1125.2) rfl rfl rfl (.c (.s (.s (.s .z))) (.c (.s (.s (.s .z))) (.c (.s (.s (.s .z))) (.c (.s (.s (.s .z))) .n)))) ?_; refine At.H.tw 13 rfl (Y.fa (RdS.some_ hr0_3 rfl h1125.1 h1125.2) rfl rfl rfl rfl rfl rfl) rfl rfl rfl (.c (.s (.s (.s .z))) (.c (.s (.s (.s .z))) (.c (.s (.s (.s .z))) (.c (.s (.s (.s .z))) .n)))) ?_; obtain ⟨A1343, c1344, hc1345, hr1346, hy1347⟩ := RdS.prjSl (P := Tryz.prog) Q1.prj_States hr0_3 (Sub.refl _) rfl h1125.1 h1125.2; refine At.H.tw 14 rfl (hy1347 rfl rfl rfl rfl) rfl rfl rfl (.c (.s (.s (.s .z))) (.c (.s (.s (.s .z))) (.c (.s (.s (.s .z))) (.c (.s (.s (.s .z))) .n)))) ?_; refine At.H.pw 15 rfl rfl rfl rfl rfl (.c (.s (.s (.s .z))) (.c (.s (.s (.s .z))) (.c (.s (.s (.s .z))) (.c (.s (.s (.s .z))) .n)))) ?_; obtain ⟨h1348, j⟩ := bnone j; obtain ⟨h1349, j⟩ := bnone j; refine At.H.joinK (X := (Option Addr) × Nat) (fun s_ => [(1, .pointer (some ⟨b264, 0, none⟩)), (2, .pointer (some ⟨b265, 0, none⟩)), (3, .pointer (some ⟨b266, 0, none⟩)), (6, .int .i64 x904)]) (fun s_ => pt b266 (.cells [.int .i64 a0_0, .slice A277 ((((([] : List Bs) ++ a0_1) ++ ([([33] : Bs)] : List Bs)).take (a0_1.length : Int).toNat).length) c278, .slice A289 ((((([] : List Q0) ++ a0_2) ++ ([(⟨(-7), 0, 0⟩ : Q0)] : List Q0)).take (a0_2.length : Int).toNat).length) c290, .slice s_.1 ((x899 ++ [(⟨((gt a0_3 x904).Name), (((([] : List Int) ++ (gt a0_3 x904).States) ++ ([(-7)] : List Int)).take (((gt a0_3 x904).States.length : Int).toNat), ((([] : List Int) ++ (gt a0_3 x904).States) ++ ([(-7)] : List Int)).drop (((gt a0_3 x904).States.length : Int).toNat))⟩ : Q6)]).length) s_.2].toArray 26) :: grow Q6.ow 37 s_.1 ((x899 ++ [(⟨((gt a0_3 x904).Name), (((([] : List Int) ++ (gt a0_3 x904).States) ++ ([(-7)] : List Int)).take (((gt a0_3 x904).States.length : Int).toNat), ((([] : List Int) ++ (gt a0_3 x904).States) ++ ([(-7)] : List Int)).drop (((gt a0_3 x904).States.length : Int).toNat))⟩ : Q6)]).length) s_.2 (x899 ++ [(⟨((gt a0_3 x904).Name), (((([] : List Int) ++ (gt a0_3 x904).States) ++ ([(-7)] : List Int)).take (((gt a0_3 x904).States.length : Int).toNat), ((([] : List Int) ++ (gt a0_3 x904).States) ++ ([(-7)] : List Int)).drop (((gt a0_3 x904).States.length : Int).toNat))⟩ : Q6)]) :: row Q0.fl 35 A289 (((([] : List Q0) ++ a0_2) ++ ([(⟨(-7), 0, 0⟩ : Q0)] : List Q0)).length) c290 ((([] : List Q0) ++ a0_2) ++ ([(⟨(-7), 0, 0⟩ : Q0)] : List Q0)) :: row Fl.bs 9 A277 (((([] : List Bs) ++ a0_1) ++ ([([33] : Bs)] : List Bs)).length) c278 ((([] : List Bs) ++ a0_1) ++ ([([33] : Bs)] : List Bs)) :: pt b265 (.cells [.int .i64 0, .slice none 0 0, .slice none 0 0, .slice none 0 0].toArray 26) :: pt b264 (.cells [.int .i64 a0_0, .slice A0_1 a0_1.length c0_1, .slice A0_2 a0_2.length c0_2, .slice A0_3 a0_3.length c0_3].toArray 26) :: Fr) (fun s_ => True) ?_ (fun J1342 => ?_)
     ·rintro ⟨w1340, w1341⟩ -
      ·refine At.ibn ?_; refine At.thn (At.region (At.run 3 rfl (At.nil (At.f5 (At.f5 (At.f5 (At.f5 ?_))))))); refine At.f4 (At.f5 ?_); have j := bnx hf_ j; exact fun a w e hs => ⟨m1117, ((x899 ++ [(⟨((gt a0_3 x904).Name), (((([] : List Int) ++ (gt a0_3 x904).States) ++ ([(-7)] : List Int)).take (((gt a0_3 x904).States.length : Int).toNat), ((([] : List Int) ++ (gt a0_3 x904).States) ++ ([(-7)] : List Int)).drop (((gt a0_3 x904).States.length : Int).toNat))⟩ : Q6)]), IntKind.i64.wrap (x904 + 1), (x899 ++ [(⟨((gt a0_3 x904).Name), (((([] : List Int) ++ (gt a0_3 x904).States) ++ ([(-7)] : List Int)).take (((gt a0_3 x904).States.length : Int).toNat), ((([] : List Int) ++ (gt a0_3 x904).States) ++ ([(-7)] : List Int)).drop (((gt a0_3 x904).States.length : Int).toNat))⟩ : Q6)]).length, w1340, w1341), hlt1119, ⟨j, rfl⟩, e.sub ⟨rfl, rfl, rfl, rfl, trivial⟩, hs⟩
     ·refine At.H.al [1, 16] (Q12 ?_ (Q12 ?_ Q14))
      ··refine At.HO.op rfl ?_
        refine At.y (Y.load rfl rfl (.s (.s .z)) rfl rfl rfl) rfl rfl rfl ?_; refine At.HO.back (.c (.s (.s (.s .z))) (.c (.s (.s (.s .z))) (.c (.s (.s (.s .z))) (.c (.s (.s (.s .z))) .n)))) ?_; refine At.H.al [16] (Q12 ?_ Q14)
        ··refine At.HO.op rfl ?_
          refine At.y (Y.slOwn .z rfl rfl rfl rfl rfl h1348.1 h1348.2) rfl rfl rfl ?_; refine At.HO.back (.c (.s (.s (.s .z))) (.c (.s (.s (.s .z))) (.c (.s (.s (.s .z))) (.c (.s (.s (.s .z))) .n)))) ?_; refine At.H.tw 17 rfl (Y.build (is := [0, 1]) (xo := [.tmp 60, .tmp 69]) (vs := [.string ⟨((gt a0_3 x904).Name).toArray⟩, .slice A1138 ((((([] : List Int) ++ (gt a0_3 x904).States) ++ ([(-7)] : List Int)).take ((gt a0_3 x904).States.length : Int).toNat).length) c1139]) (cs := [.string ⟨((gt a0_3 x904).Name).toArray⟩, .slice A1138 ((((([] : List Int) ++ (gt a0_3 x904).States) ++ ([(-7)] : List Int)).take ((gt a0_3 x904).States.length : Int).toNat).length) c1139]) rfl rfl rfl rfl rfl rfl) rfl rfl rfl (.c (.s (.s (.s .z))) (.c (.s (.s (.s .z))) (.c (.s (.s (.s .z))) (.c (.s (.s (.s .z))) .n)))) ?_; refine At.H.al [18] (Q12 ?_ Q14)
          ··refine At.HO.op rfl ?_
            refine At.lit rfl (xo := [.tmp 70]) (ys := ([rawOf (Q6.ow).sz [.string ⟨((gt a0_3 x904).Name).toArray⟩, .slice A1138 ((((([] : List Int) ++ (gt a0_3 x904).States) ++ ([(-7)] : List Int)).take ((gt a0_3 x904).States.length : Int).toNat).length) c1139] rfl rfl] : List (Raw (Q6.ow).sz))) (Fl.raw (Q6.ow).sz (Q6.ow).pos) rfl rfl rfl rfl rfl rfl rfl rfl rfl rfl rfl (fun A1350 c1351 => ?_); refine At.HO.back (.c (.s (.s (.s (.s .z)))) (.c (.s (.s (.s (.s .z)))) (.c (.s (.s (.s (.s .z)))) (.c (.s (.s (.s (.s .z)))) .n)))) ?_; refine At.H.al [19] (Q12 ?_ Q14)
            ··refine At.HO.op rfl ?_
              refine At.f1 (At.f1 (At.f2 ?_)); refine At.appendGrow (T := Q6.ow) rfl rfl Q6.ent rfl rfl rfl rfl rfl rfl rfl rfl rfl h1349 (by decide) rfl (fun A1353 c1354 => ?_); refine At.HO.back (.c (.s (.s .z)) (.c (.s (.s .z)) (.c (.s (.s .z)) (.c (.s (.s .z)) .n)))) ?_; refine At.H.pw 20 rfl rfl rfl rfl rfl (.c (.s (.s .z)) (.c (.s (.s .z)) (.c (.s (.s .z)) (.c (.s (.s .z)) .n)))) ?_; refine At.H.al [21] (Q12 ?_ Q14)
              ··refine At.HO.op rfl ?_
                refine At.store rfl rfl rfl rfl (.s .z) rfl rfl rfl (.s (.s (.s (.c .n)))) ?_; refine At.HO.back (.c (.s (.s .z)) (.c (.s (.s .z)) (.c (.s (.s .z)) (.c (.s (.s .z)) .n)))) ?_; refine At.H.done (by kernel_rfl) ?_; exact At.of (J1342 (A1353, c1354) trivial) ⟨rfl, rfl, rfl, rfl, trivial⟩
      ··refine At.HO.op rfl ?_
        refine At.y (Y.slOwn .z rfl rfl rfl rfl rfl h1348.1 h1348.2) rfl rfl rfl ?_; refine At.HO.back (.c (.s (.s (.s .z))) (.c (.s (.s (.s .z))) (.c (.s (.s (.s .z))) (.c (.s (.s (.s .z))) .n)))) ?_; refine At.H.tw 17 rfl (Y.build (is := [0, 1]) (xo := [.tmp 60, .tmp 69]) (vs := [.string ⟨((gt a0_3 x904).Name).toArray⟩, .slice A1138 ((((([] : List Int) ++ (gt a0_3 x904).States) ++ ([(-7)] : List Int)).take ((gt a0_3 x904).States.length : Int).toNat).length) c1139]) (cs := [.string ⟨((gt a0_3 x904).Name).toArray⟩, .slice A1138 ((((([] : List Int) ++ (gt a0_3 x904).States) ++ ([(-7)] : List Int)).take ((gt a0_3 x904).States.length : Int).toNat).length) c1139]) rfl rfl rfl rfl rfl rfl) rfl rfl rfl (.c (.s (.s (.s .z))) (.c (.s (.s (.s .z))) (.c (.s (.s (.s .z))) (.c (.s (.s (.s .z))) .n)))) ?_; refine At.H.al [1, 18] (Q12 ?_ (Q12 ?_ Q14))
        ··refine At.HO.op rfl ?_
          refine At.y (Y.load rfl rfl (.s (.s .z)) rfl rfl rfl) rfl rfl rfl ?_; refine At.HO.back (.c (.s (.s (.s .z))) (.c (.s (.s (.s .z))) (.c (.s (.s (.s .z))) (.c (.s (.s (.s .z))) .n)))) ?_; refine At.H.al [18] (Q12 ?_ Q14)
          ··refine At.HO.op rfl ?_
            refine At.lit rfl (xo := [.tmp 70]) (ys := ([rawOf (Q6.ow).sz [.string ⟨((gt a0_3 x904).Name).toArray⟩, .slice A1138 ((((([] : List Int) ++ (gt a0_3 x904).States) ++ ([(-7)] : List Int)).take ((gt a0_3 x904).States.length : Int).toNat).length) c1139] rfl rfl] : List (Raw (Q6.ow).sz))) (Fl.raw (Q6.ow).sz (Q6.ow).pos) rfl rfl rfl rfl rfl rfl rfl rfl rfl rfl rfl (fun A1355 c1356 => ?_); refine At.HO.back (.c (.s (.s (.s (.s .z)))) (.c (.s (.s (.s (.s .z)))) (.c (.s (.s (.s (.s .z)))) (.c (.s (.s (.s (.s .z)))) .n)))) ?_; refine At.H.al [19] (Q12 ?_ Q14)
            ··refine At.HO.op rfl ?_
              refine At.f1 (At.f1 (At.f2 ?_)); refine At.appendGrow (T := Q6.ow) rfl rfl Q6.ent rfl rfl rfl rfl rfl rfl rfl rfl rfl h1349 (by decide) rfl (fun A1358 c1359 => ?_); refine At.HO.back (.c (.s (.s .z)) (.c (.s (.s .z)) (.c (.s (.s .z)) (.c (.s (.s .z)) .n)))) ?_; refine At.H.pw 20 rfl rfl rfl rfl rfl (.c (.s (.s .z)) (.c (.s (.s .z)) (.c (.s (.s .z)) (.c (.s (.s .z)) .n)))) ?_; refine At.H.al [21] (Q12 ?_ Q14)
              ··refine At.HO.op rfl ?_
                refine At.store rfl rfl rfl rfl (.s .z) rfl rfl rfl (.s (.s (.s (.c .n)))) ?_; refine At.HO.back (.c (.s (.s .z)) (.c (.s (.s .z)) (.c (.s (.s .z)) (.c (.s (.s .z)) .n)))) ?_; refine At.H.done (by kernel_rfl) ?_; exact At.of (J1342 (A1358, c1359) trivial) ⟨rfl, rfl, rfl, rfl, trivial⟩
        ··refine At.HO.op rfl ?_
          refine At.lit rfl (xo := [.tmp 70]) (ys := ([rawOf (Q6.ow).sz [.string ⟨((gt a0_3 x904).Name).toArray⟩, .slice A1138 ((((([] : List Int) ++ (gt a0_3 x904).States) ++ ([(-7)] : List Int)).take ((gt a0_3 x904).States.length : Int).toNat).length) c1139] rfl rfl] : List (Raw (Q6.ow).sz))) (Fl.raw (Q6.ow).sz (Q6.ow).pos) rfl rfl rfl rfl rfl rfl rfl rfl rfl rfl rfl (fun A1360 c1361 => ?_); refine At.HO.back (.c (.s (.s (.s (.s .z)))) (.c (.s (.s (.s (.s .z)))) (.c (.s (.s (.s (.s .z)))) (.c (.s (.s (.s (.s .z)))) .n)))) ?_; refine At.H.al [1] (Q12 ?_ Q14)
          ··refine At.HO.op rfl ?_
            refine At.y (Y.load rfl rfl (.s (.s (.s .z))) rfl rfl rfl) rfl rfl rfl ?_; refine At.HO.back (.c (.s (.s (.s (.s .z)))) (.c (.s (.s (.s (.s .z)))) (.c (.s (.s (.s (.s .z)))) (.c (.s (.s (.s (.s .z)))) .n)))) ?_; refine At.H.al [19] (Q12 ?_ Q14)
            ··refine At.HO.op rfl ?_
              refine At.f1 (At.f1 (At.f2 ?_)); refine At.appendGrow (T := Q6.ow) rfl rfl Q6.ent rfl rfl rfl rfl rfl rfl rfl rfl rfl h1349 (by decide) rfl (fun A1363 c1364 => ?_); refine At.HO.back (.c (.s (.s .z)) (.c (.s (.s .z)) (.c (.s (.s .z)) (.c (.s (.s .z)) .n)))) ?_; refine At.H.pw 20 rfl rfl rfl rfl rfl (.c (.s (.s .z)) (.c (.s (.s .z)) (.c (.s (.s .z)) (.c (.s (.s .z)) .n)))) ?_; refine At.H.al [21] (Q12 ?_ Q14)
              ··refine At.HO.op rfl ?_
                refine At.store rfl rfl rfl rfl (.s .z) rfl rfl rfl (.s (.s (.s (.c .n)))) ?_; refine At.HO.back (.c (.s (.s .z)) (.c (.s (.s .z)) (.c (.s (.s .z)) (.c (.s (.s .z)) .n)))) ?_; refine At.H.done (by kernel_rfl) ?_; exact At.of (J1342 (A1363, c1364) trivial) ⟨rfl, rfl, rfl, rfl, trivial⟩
   ··refine At.condF rfl (decide_eq_false h1121) ?_
     refine At.exit ?_; refine At.the ?_; refine At.the ?_; exact fun a w e hs => J1120 (x899, x899.length, w902, w903) ⟨(bdn j ho1115), rfl⟩ a w (e.sub ⟨rfl, rfl, trivial⟩) hs

noncomputable def Q114.f (a0 : Int) : Option Bs :=
 if a0 < 10 then
 if (0 : Int) ≤ a0 ∧ a0 ≤ IntKind.i64.wrap (a0 + 1) ∧ IntKind.i64.wrap (a0 + 1) ≤ (([48, 49, 50, 51, 52, 53, 54, 55, 56, 57, 97, 98, 99, 100, 101, 102, 103, 104, 105, 106, 107, 108, 109, 110, 111, 112, 113, 114, 115, 116, 117, 118, 119, 120, 121, 122] : Bs).length : Int) then
 some (bsl ([48, 49, 50, 51, 52, 53, 54, 55, 56, 57, 97, 98, 99, 100, 101, 102, 103, 104, 105, 106, 107, 108, 109, 110, 111, 112, 113, 114, 115, 116, 117, 118, 119, 120, 121, 122] : Bs) a0 (IntKind.i64.wrap (a0 + 1)))
 else none
 else
 if (0 : Int) ≤ IntKind.i64.wrap (a0 * 2) ∧ IntKind.i64.wrap (a0 * 2) ≤ IntKind.i64.wrap (IntKind.i64.wrap (a0 * 2) + 2) ∧ IntKind.i64.wrap (IntKind.i64.wrap (a0 * 2) + 2) ≤ (([48, 48, 48, 49, 48, 50, 48, 51, 48, 52, 48, 53, 48, 54, 48, 55, 48, 56, 48, 57, 49, 48, 49, 49, 49, 50, 49, 51, 49, 52, 49, 53, 49, 54, 49, 55, 49, 56, 49, 57, 50, 48, 50, 49, 50, 50, 50, 51, 50, 52, 50, 53, 50, 54, 50, 55, 50, 56, 50, 57, 51, 48, 51, 49, 51, 50, 51, 51, 51, 52, 51, 53, 51, 54, 51, 55, 51, 56, 51, 57, 52, 48, 52, 49, 52, 50, 52, 51, 52, 52, 52, 53, 52, 54, 52, 55, 52, 56, 52, 57, 53, 48, 53, 49, 53, 50, 53, 51, 53, 52, 53, 53, 53, 54, 53, 55, 53, 56, 53, 57, 54, 48, 54, 49, 54, 50, 54, 51, 54, 52, 54, 53, 54, 54, 54, 55, 54, 56, 54, 57, 55, 48, 55, 49, 55, 50, 55, 51, 55, 52, 55, 53, 55, 54, 55, 55, 55, 56, 55, 57, 56, 48, 56, 49, 56, 50, 56, 51, 56, 52, 56, 53, 56, 54, 56, 55, 56, 56, 56, 57, 57, 48, 57, 49, 57, 50, 57, 51, 57, 52, 57, 53, 57, 54, 57, 55, 57, 56, 57, 57] : Bs).length : Int) then
 some (bsl ([48, 48, 48, 49, 48, 50, 48, 51, 48, 52, 48, 53, 48, 54, 48, 55, 48, 56, 48, 57, 49, 48, 49, 49, 49, 50, 49, 51, 49, 52, 49, 53, 49, 54, 49, 55, 49, 56, 49, 57, 50, 48, 50, 49, 50, 50, 50, 51, 50, 52, 50, 53, 50, 54, 50, 55, 50, 56, 50, 57, 51, 48, 51, 49, 51, 50, 51, 51, 51, 52, 51, 53, 51, 54, 51, 55, 51, 56, 51, 57, 52, 48, 52, 49, 52, 50, 52, 51, 52, 52, 52, 53, 52, 54, 52, 55, 52, 56, 52, 57, 53, 48, 53, 49, 53, 50, 53, 51, 53, 52, 53, 53, 53, 54, 53, 55, 53, 56, 53, 57, 54, 48, 54, 49, 54, 50, 54, 51, 54, 52, 54, 53, 54, 54, 54, 55, 54, 56, 54, 57, 55, 48, 55, 49, 55, 50, 55, 51, 55, 52, 55, 53, 55, 54, 55, 55, 55, 56, 55, 57, 56, 48, 56, 49, 56, 50, 56, 51, 56, 52, 56, 53, 56, 54, 56, 55, 56, 56, 56, 57, 57, 48, 57, 49, 57, 50, 57, 51, 57, 52, 57, 53, 57, 54, 57, 55, 57, 56, 57, 57] : Bs) (IntKind.i64.wrap (a0 * 2)) (IntKind.i64.wrap (IntKind.i64.wrap (a0 * 2) + 2)))
 else none
theorem Q114.callee : Callee Tryz.prog 164 := ⟨_, Tryz.func164, by kernel_rfl, by kernel_rfl⟩
theorem Q114.spec (R : Res) (Fr : List HProp)  (a0 : Int)  {r : Bs} (j : Q114.f a0 = some r) :
 Spec Tryz.prog 164 [.int .i64 a0] R (Fr) (fun v l' => v = .string ⟨(r).toArray⟩ ∧ Fr = l') := by
 refine Spec.of Tryz.func164 rfl rfl ?_; unfold Q114.f at j; have j := brun j; refine At.seq (At.region (At.run 1 rfl (At.nil (At.thn (At.seq (At.seq (At.region ?_))))))); refine At.run 2 rfl (At.nil (At.thn ?_)); rcases bite j with ⟨h252, j⟩ | ⟨h252, j⟩
 ··refine At.condT rfl (decide_eq_true h252) ?_
   refine At.seq (At.region (At.run 3 rfl ?_)); obtain ⟨h253, j⟩ := bnone j; refine At.y (Y.slStrLH rfl rfl rfl rfl rfl h253.1 h253.2.1 h253.2.2) rfl rfl rfl ?_; refine At.run 1 rfl (At.nil (At.thn (At.ret (At.thr ?_)))); cases bret j; exact At.res (.inl rfl) rfl rfl ⟨rfl, rfl⟩
 ··refine At.condF rfl (decide_eq_false h252) ?_
   refine At.skip (At.thn (At.seq (At.region (At.run 5 rfl ?_)))); obtain ⟨h254, j⟩ := bnone j; refine At.y (Y.slStrLH rfl rfl rfl rfl rfl h254.1 h254.2.1 h254.2.2) rfl rfl rfl ?_; refine At.run 1 rfl (At.nil (At.thn (At.ret ?_))); cases bret j; exact At.res (.inl rfl) rfl rfl ⟨rfl, rfl⟩

noncomputable def Q111.f (a0 a1 : Int) : Option Bs :=
 if a1 = 10 then
 jn (
 if 0 ≤ a0 then
 some (.inl (decide (a0 < 100)))
 else
 some (.inl false)) (fun (x453 : Bool) =>
 if x453 = true then
 (Q114.f a0).bind fun t459 =>
 some t459
 else
 if a0 < 0 then
 none
 else
 none)
 else
 none
theorem Q111.callee : Callee Tryz.prog 137 := ⟨_, Tryz.func137, by kernel_rfl, by kernel_rfl⟩
theorem Q111.spec (R : Res) (Fr : List HProp)  (a0 a1 : Int)  {r : Bs} (j : Q111.f a0 a1 = some r) :
 Spec Tryz.prog 137 [.int .i64 a0, .int .i64 a1] R (Fr) (fun v l' => v = .string ⟨(r).toArray⟩ ∧ Fr = l') := by
 refine Spec.of Tryz.func137 rfl rfl ?_; unfold Q111.f at j; have j := brun j; refine At.seq (At.region (At.run 1 rfl (At.nil (At.thn (At.seq (At.seq (At.region ?_))))))); refine At.run 2 rfl (At.nil (At.thn ?_)); rcases bite j with ⟨h252, j⟩ | ⟨h252, j⟩
 ··refine At.condT rfl (decide_eq_true h252) ?_
   refine At.seq (At.seq (At.region (At.run 3 rfl ?_))); obtain ⟨G454, hl455, hr456, j⟩ := bjoin j; refine At.joinO 3 (X := Bool) (fun x453 => [(0, .int .i64 a0), (17, .bool x453)]) (fun x453 => Fr) (fun x453 => G454 (.inl x453) = some r) ?_ (fun J457 => ?_)
   ·rintro x453 j; have j := (hl455 _).symm.trans j
    ·refine At.nil (At.thn ?_); rcases bite j with ⟨h458, j⟩ | ⟨h458, j⟩
     ··refine At.condT rfl h458 ?_
       refine At.seq (At.region (At.run 1 rfl ?_)); obtain ⟨t459, hc460, j⟩ := bbind j; refine At.call rfl Q114.callee rfl rfl rfl (Q114.spec _ _  a0  hc460) ?_; rintro _ _ ⟨rfl, rfl⟩; refine At.run 1 rfl (At.nil (At.thn (At.ret (At.thr (At.thr ?_))))); cases bret j; exact At.res (.inl rfl) rfl rfl ⟨rfl, rfl⟩
     ··refine At.condF rfl (bn h458) ?_
       refine At.skip (At.thn (At.seq (At.region ?_))); refine At.alloc rfl rfl rfl (fun b461 => ?_); refine At.nil (At.thn (At.seq (At.region (At.run 3 rfl (At.nil (At.thn (At.seq ?_))))))); refine At.seq (At.region (At.run 2 rfl (At.nil (At.thn ?_)))); rcases bite j with ⟨h462, j⟩ | ⟨h462, j⟩
       ··refine At.condT rfl (decide_eq_true h462) ?_
         cases j
       ··refine At.condF rfl (decide_eq_false h462) ?_
         cases j
   ··rcases bite j with ⟨h467, j⟩ | ⟨h467, j⟩
     ··refine At.know (t := 14) rfl (decide_eq_true h467) ?_
       refine At.run 3 rfl ?_; exact At.of (J457 (decide (a0 < 100)) j) ⟨rfl, rfl, trivial⟩
     ··refine At.know (t := 14) rfl (decide_eq_false h467) ?_
       refine At.run 3 rfl ?_; exact At.of (J457 false j) ⟨rfl, rfl, trivial⟩
 ··refine At.condF rfl (decide_eq_false h252) ?_
   cases j

noncomputable def Q118.f (a0 : Int) : Option Bs :=
 (Q111.f a0 10).bind fun t252 =>
 some t252
theorem Q118.callee : Callee Tryz.prog 91 := ⟨_, Tryz.func91, by kernel_rfl, by kernel_rfl⟩
theorem Q118.spec (R : Res) (Fr : List HProp)  (a0 : Int)  {r : Bs} (j : Q118.f a0 = some r) :
 Spec Tryz.prog 91 [.int .i64 a0] R (Fr) (fun v l' => v = .string ⟨(r).toArray⟩ ∧ Fr = l') := by
 refine Spec.of Tryz.func91 rfl rfl ?_; unfold Q118.f at j; have j := brun j; refine At.seq (At.region (At.run 1 rfl (At.nil (At.thn (At.seq (At.region (At.run 1 rfl ?_))))))); obtain ⟨t252, hc253, j⟩ := bbind j; refine At.call rfl Q111.callee rfl rfl rfl (Q111.spec _ _  a0 10  hc253) ?_; rintro _ _ ⟨rfl, rfl⟩; refine At.run 1 rfl (At.nil (At.thn (At.ret ?_))); cases bret j; exact At.res (.inl rfl) rfl rfl ⟨rfl, rfl⟩

noncomputable def Q66.f (a0 : Int) : Option Bs :=
 (Q118.f a0).bind fun t252 =>
 some t252
theorem Q66.callee : Callee Tryz.prog 65 := ⟨_, Tryz.func65, by kernel_rfl, by kernel_rfl⟩
theorem Q66.spec (R : Res) (Fr : List HProp)  (a0 : Int)  {r : Bs} (j : Q66.f a0 = some r) :
 Spec Tryz.prog 65 [.int .i64 a0] R (Fr) (fun v l' => v = .string ⟨(r).toArray⟩ ∧ Fr = l') := by
 refine Spec.of Tryz.func65 rfl rfl ?_; unfold Q66.f at j; have j := brun j; refine At.seq (At.region (At.run 1 rfl (At.nil (At.thn (At.seq (At.region (At.run 1 rfl ?_))))))); obtain ⟨t252, hc253, j⟩ := bbind j; refine At.call rfl Q118.callee rfl rfl rfl (Q118.spec _ _  a0  hc253) ?_; rintro _ _ ⟨rfl, rfl⟩; refine At.run 1 rfl (At.nil (At.thn (At.ret ?_))); cases bret j; exact At.res (.inl rfl) rfl rfl ⟨rfl, rfl⟩

theorem Q48.ccallee : Callee Tryz.prog 90 := ⟨_, Tryz.func90, by kernel_rfl, by kernel_rfl⟩
theorem Q48.check (R : Res) (Fr : List HProp) (b : Nat) (p : Option Addr) (hp : p = none ∨ p = some ⟨b, 0, none⟩) (A : Option Addr) (n c : Nat) :
 Spec Tryz.prog 90 [.pointer (some ⟨b, 0, none⟩)] R (pt b (.cells [.pointer p, .slice A n c].toArray 101) :: Fr) (fun v l' => v = .tuple #[] ∧ pt b (.cells [.pointer (some ⟨b, 0, none⟩), .slice A n c].toArray 101) :: Fr = l') := by
 refine Spec.of Tryz.func90 rfl rfl ?_; refine At.seq (At.region (At.run 3 rfl (At.y (Y.load rfl rfl .z rfl rfl rfl) rfl rfl rfl ?_))); rcases hp with rfl | rfl
 ·refine At.y (Y.eqPtrK none rfl rfl rfl rfl rfl) rfl rfl rfl ?_; refine At.nil (At.thn ?_); refine At.condT rfl rfl ?_; refine At.region (At.run 2 rfl ?_); refine At.y (Y.toUnsafe (t := 101) .z rfl rfl (by kernel_rfl) (by kernel_rfl) rfl rfl) rfl rfl rfl ?_; refine At.y (Y.ext abi_NoEscape.ext rfl rfl (fun w => run_noesc _ w)) rfl rfl rfl ?_; refine At.y (Y.fromUnsafe (t := 101) .z rfl (by kernel_rfl) (by kernel_rfl) rfl (by kernel_rfl)) rfl rfl rfl ?_; refine At.run 2 rfl ?_; refine At.store rfl rfl rfl rfl .z rfl rfl rfl (.c .n) ?_; refine At.nil ?_; exact At.res (.inr rfl) rfl rfl ⟨rfl, rfl⟩
 ·refine At.y (Y.eqPtrK (some b) rfl rfl rfl rfl rfl) rfl rfl rfl ?_; refine At.nil (At.thn ?_); refine At.condF rfl rfl ?_; refine At.seq (At.region (At.run 3 rfl (At.y (Y.load rfl rfl .z rfl rfl rfl) rfl rfl rfl (At.run 1 rfl ?_)))); refine At.y (Y.nePtrSame (b := 101) rfl (by kernel_rfl) rfl rfl) rfl rfl rfl ?_; refine At.nil (At.thn ?_); refine At.condF rfl rfl ?_; refine At.skip ?_; exact At.res (.inr rfl) rfl rfl ⟨rfl, rfl⟩
noncomputable def Q48.f (a0 a1 : Bs) : Option Bs := if a0.length + a1.length ≤ 140737488355328 then some (a0 ++ a1) else none
theorem Q48.callee : Callee Tryz.prog 64 := ⟨_, Tryz.func64, by kernel_rfl, by kernel_rfl⟩
theorem Q48.spec (R : Res) (Fr : List HProp) (b0 : Nat) (a0 a1 : Bs) {r : Bs} (j : Q48.f a0 a1 = some r) :
 Spec Tryz.prog 64 [.pointer (some ⟨b0, 0, none⟩), .string ⟨a1.toArray⟩] R (bld 101 5 b0 a0 :: Fr) (fun v l' => v = .tuple #[.int .i64 (a1.length : Int), .nilIface] ∧ bld 101 5 b0 r :: Fr = l') := by
 unfold Q48.f at j; split at j; rotate_left
 ·cases j
 rename_i hb; cases j; refine Spec.of Tryz.func64 rfl rfl ?_; refine At.openBld .z fun p A c hp hA => ?_; refine At.seq (At.region (At.run 2 rfl (At.nil (At.thn ?_)))); refine At.seq (At.region (At.run 1 rfl ?_)); refine At.call rfl Q48.ccallee rfl rfl rfl (Q48.check R _ b0 p hp A a0.length c) ?_; rintro _ _ ⟨rfl, rfl⟩; refine At.nil (At.thn ?_); refine At.seq (At.region (At.run 4 rfl ?_)); refine At.y (Y.load rfl rfl .z rfl rfl rfl) rfl rfl rfl (At.run 1 rfl ?_); refine At.appendStr rfl (.s .z) rfl rfl (by kernel_rfl) (by kernel_rfl) rfl rfl hA hb rfl (fun A' c' hA' => ?_); refine At.run 2 rfl ?_; refine At.store rfl rfl rfl rfl (.s .z) rfl rfl rfl (.s (.c .n)) ?_; refine At.nil (At.thn ?_); refine At.seq (At.region (At.run 4 rfl (At.nil (At.thn (At.ret ?_))))); refine At.shutBld (.inr rfl) hA' ?_; exact At.res (.inl rfl) rfl rfl ⟨rfl, rfl⟩

noncomputable def Q125.f (a0 : Bs) : Option Bs := some a0
theorem Q125.callee : Callee Tryz.prog 66 := ⟨_, Tryz.func66, by kernel_rfl, by kernel_rfl⟩
theorem Q125.spec (R : Res) (Fr : List HProp) (b0 : Nat) (a0 : Bs) {r : Bs} (j : Q125.f a0 = some r) :
 Spec Tryz.prog 66 [.pointer (some ⟨b0, 0, none⟩)] R (bld 101 5 b0 a0 :: Fr) (fun v l' => v = .string ⟨r.toArray⟩ ∧ Fr = l') := by
 cases j; refine Spec.of Tryz.func66 rfl rfl ?_; refine At.openBld .z fun p A c hp hA => ?_; refine At.seq (At.region (At.run 1 rfl (At.nil (At.thn ?_)))); refine At.seq ?_; refine At.still 10 (by kernel_rfl) ?_; refine At.Still.run 3 rfl ?_; refine At.Still.y (Y.load rfl rfl .z rfl rfl rfl) rfl rfl rfl ?_; refine At.Still.y (Y.sliceData rfl hA) rfl rfl rfl ?_; refine At.Still.run 3 rfl ?_; refine At.Still.y (Y.load rfl rfl .z rfl rfl rfl) rfl rfl rfl ?_; refine At.Still.run 1 rfl ?_; refine At.Still.nil ?_; refine At.unsafeStr rfl (.s .z) (by kernel_rfl) (by kernel_rfl) rfl rfl rfl ?_; refine At.run 1 rfl ?_; refine At.nil (At.thn (At.ret ?_)); refine At.drop .z ?_; exact At.res (.inl rfl) rfl rfl ⟨rfl, rfl⟩

noncomputable def Q21.l2b (a0_3 : List Q1) (x1683 : Int) (x2513 : Bs) (x2514 : Int) : Option ((Bs × Int) ⊕ ((Bs) ⊕ ((Bs × Int) ⊕ ((Bs) ⊕ (Bs))))) :=
 if x2514 < ((gt a0_3 x1683).States.length : Int) then
 if (0 : Int) ≤ x2514 ∧ x2514 < ((gt a0_3 x1683).States.length : Int) then
 (Q66.f (gt ((gt a0_3 x1683).States) x2514)).bind fun t2731 =>
 if (([32] : Bs).length : Int) + (t2731.length : Int) ≤ 9223372036854775807 then
 (Q48.f x2513 (([32] : Bs) ++ t2731)).bind fun t2734 =>
 nx (t2734, IntKind.i64.wrap (x2514 + 1))
 else none
 else none
 else
 dn (.inl x2513)
noncomputable def Q21.l2 (a0_3 : List Q1) (x1683 : Int) (x2513 : Bs) (x2514 : Int) : Option ((Bs) ⊕ ((Bs × Int) ⊕ ((Bs) ⊕ (Bs)))) := iter (fun t_ : Bs × Int => Q21.l2b a0_3 x1683 t_.1 t_.2) (x2513, x2514)
noncomputable def Q21.l1b (a0_3 : List Q1) (x1682 : Bs) (x1683 : Int) : Option ((Bs × Int) ⊕ ((Bs) ⊕ (Bs))) :=
 if x1683 < (a0_3.length : Int) then
 if (0 : Int) ≤ x1683 ∧ x1683 < (a0_3.length : Int) then
 if (([109, 97, 114, 107, 32] : Bs).length : Int) + (((gt a0_3 x1683).Name).length : Int) ≤ 9223372036854775807 then
 (Q48.f x1682 (([109, 97, 114, 107, 32] : Bs) ++ (gt a0_3 x1683).Name)).bind fun t1909 =>
 jn (Q21.l2 a0_3 x1683 t1909 0) (fun (x2715 : Bs) =>
 (Q48.f x2715 ([10] : Bs)).bind fun t2727 =>
 nx (t2727, IntKind.i64.wrap (x1683 + 1)))
 else none
 else none
 else
 dn (.inl x1682)
noncomputable def Q21.l1 (a0_3 : List Q1) (x1682 : Bs) (x1683 : Int) : Option ((Bs) ⊕ (Bs)) := iter (fun t_ : Bs × Int => Q21.l1b a0_3 t_.1 t_.2) (x1682, x1683)
noncomputable def Q21.l0b (a0_1 : List Bs) (a0_2 : List Q0) (x866 : Bs) (x867 : Int) : Option ((Bs × Int) ⊕ ((Bs) ⊕ (Bs))) :=
 if x867 < (a0_2.length : Int) then
 if (0 : Int) ≤ x867 ∧ x867 < (a0_2.length : Int) then
 if (0 : Int) ≤ (gt a0_2 x867).Action ∧ (gt a0_2 x867).Action < (a0_1.length : Int) then
 (Q66.f ((gt a0_2 x867).From)).bind fun t2746 =>
 if (([101, 100, 103, 101, 32] : Bs).length : Int) + (t2746.length : Int) ≤ 9223372036854775807 then
 if ((([101, 100, 103, 101, 32] : Bs) ++ t2746).length : Int) + (([32] : Bs).length : Int) ≤ 9223372036854775807 then
 if (((([101, 100, 103, 101, 32] : Bs) ++ t2746) ++ ([32] : Bs)).length : Int) + ((gt a0_1 ((gt a0_2 x867).Action)).length : Int) ≤ 9223372036854775807 then
 if ((((([101, 100, 103, 101, 32] : Bs) ++ t2746) ++ ([32] : Bs)) ++ gt a0_1 ((gt a0_2 x867).Action)).length : Int) + (([32] : Bs).length : Int) ≤ 9223372036854775807 then
 (Q66.f ((gt a0_2 x867).To)).bind fun t2752 =>
 if (((((([101, 100, 103, 101, 32] : Bs) ++ t2746) ++ ([32] : Bs)) ++ gt a0_1 ((gt a0_2 x867).Action)) ++ ([32] : Bs)).length : Int) + (t2752.length : Int) ≤ 9223372036854775807 then
 if ((((((([101, 100, 103, 101, 32] : Bs) ++ t2746) ++ ([32] : Bs)) ++ gt a0_1 ((gt a0_2 x867).Action)) ++ ([32] : Bs)) ++ t2752).length : Int) + (([10] : Bs).length : Int) ≤ 9223372036854775807 then
 (Q48.f x866 ((((((([101, 100, 103, 101, 32] : Bs) ++ t2746) ++ ([32] : Bs)) ++ gt a0_1 ((gt a0_2 x867).Action)) ++ ([32] : Bs)) ++ t2752) ++ ([10] : Bs))).bind fun t2756 =>
 nx (t2756, IntKind.i64.wrap (x867 + 1))
 else none
 else none
 else none
 else none
 else none
 else none
 else none
 else none
 else
 dn (.inl x866)
noncomputable def Q21.l0 (a0_1 : List Bs) (a0_2 : List Q0) (x866 : Bs) (x867 : Int) : Option ((Bs) ⊕ (Bs)) := iter (fun t_ : Bs × Int => Q21.l0b a0_1 a0_2 t_.1 t_.2) (x866, x867)
noncomputable def Q21.f (a0_0 : Int) (a0_1 : List Bs) (a0_2 : List Q0) (a0_3 : List Q1) : Option Bs :=
 (Q9.f a0_0 a0_1 a0_2 a0_3).bind fun t254 =>
 if t254 = true then
 (Q66.f a0_0).bind fun t258 =>
 if (([115, 116, 97, 116, 101, 115, 32] : Bs).length : Int) + (t258.length : Int) ≤ 9223372036854775807 then
 if ((([115, 116, 97, 116, 101, 115, 32] : Bs) ++ t258).length : Int) + (([10] : Bs).length : Int) ≤ 9223372036854775807 then
 (Q48.f ([] : Bs) ((([115, 116, 97, 116, 101, 115, 32] : Bs) ++ t258) ++ ([10] : Bs))).bind fun t262 =>
 jn (Q21.l0 a0_1 a0_2 t262 0) (fun (x1068 : Bs) =>
 jn (Q21.l1 a0_3 x1068 0) (fun (x1884 : Bs) =>
 (Q125.f x1884).bind fun t1896 =>
 some t1896))
 else none
 else none
 else
 some ([] : Bs)
theorem Q21.callee : Callee Tryz.prog 26 := ⟨_, Tryz.func26, by kernel_rfl, by kernel_rfl⟩
theorem Q21.spec (R : Res) (Fr : List HProp) (A0_1 : Option Addr) (n0_1 : Nat) (c0_1 : Nat) (A0_2 : Option Addr) (n0_2 : Nat) (c0_2 : Nat) (A0_3 : Option Addr) (n0_3 : Nat) (c0_3 : Nat) (a0_0 : Int) (a0_1 : List Bs) (a0_2 : List Q0) (a0_3 : List Q1) (hr0_1 : RdS Fl.bs.rep R.heap A0_1 a0_1) (hn0_1 : a0_1.length = n0_1) (hc0_1 : n0_1 ≤ c0_1) (hr0_2 : RdS Q0.fl.rep R.heap A0_2 a0_2) (hn0_2 : a0_2.length = n0_2) (hc0_2 : n0_2 ≤ c0_2) (hr0_3 : RdS Q1.rep R.heap A0_3 a0_3) (hn0_3 : a0_3.length = n0_3) (hc0_3 : n0_3 ≤ c0_3) {r : Bs} (j : Q21.f a0_0 a0_1 a0_2 a0_3 = some r) :
 Spec Tryz.prog 26 [.agg #[.int .i64 a0_0, .slice A0_1 n0_1 c0_1, .slice A0_2 n0_2 c0_2, .slice A0_3 n0_3 c0_3]] R (Fr) (fun v l' => v = .string ⟨(r).toArray⟩ ∧ Fr = l') := by
 subst hn0_1; subst hn0_2; subst hn0_3; refine Spec.of Tryz.func26 rfl rfl ?_; unfold Q21.f at j; have j := brun j; refine At.seq (At.region ?_); refine At.box rfl rfl (cs := [.int .i64 a0_0, .slice A0_1 a0_1.length c0_1, .slice A0_2 a0_2.length c0_2, .slice A0_3 a0_3.length c0_3]) rfl rfl (fun b253 => ?_); refine At.run 1 rfl (At.nil (At.thn (At.seq (At.seq (At.region (At.y (Y.load rfl rfl .z rfl rfl rfl) rfl rfl rfl ?_)))))); obtain ⟨t254, hc255, j⟩ := bbind j; refine At.call rfl Q9.callee rfl rfl rfl (Q9.spec _ _ A0_1 a0_1.length c0_1 A0_2 a0_2.length c0_2 A0_3 a0_3.length c0_3 a0_0 a0_1 a0_2 a0_3 hr0_1 rfl hc0_1 hr0_2 rfl hc0_2 hr0_3 rfl hc0_3 hc255) ?_; rintro _ _ ⟨rfl, rfl⟩; refine At.run 1 rfl (At.nil (At.thn ?_)); rcases bite j with ⟨h256, j⟩ | ⟨h256, j⟩
 ··refine At.condF rfl (nf h256) ?_
   refine At.skip (At.thn (At.seq (At.region ?_))); refine At.alloc rfl rfl rfl (fun b257 => ?_); refine At.toBld 101 5 ?_; refine At.nil (At.thn (At.seq (At.region (At.run 1 rfl (At.y (Y.load rfl rfl (.s .z) rfl rfl rfl) rfl rfl rfl ?_))))); obtain ⟨t258, hc259, j⟩ := bbind j; refine At.call rfl Q66.callee rfl rfl rfl (Q66.spec _ _  a0_0  hc259) ?_; rintro _ _ ⟨rfl, rfl⟩; obtain ⟨h260, j⟩ := bnone j; refine At.y (Y.addStr rfl rfl h260) rfl rfl rfl ?_; obtain ⟨h261, j⟩ := bnone j; refine At.y (Y.addStr rfl rfl h261) rfl rfl rfl ?_; obtain ⟨t262, hc263, j⟩ := bbind j; refine At.call rfl Q48.callee rfl rfl rfl (Q48.spec _ _ b257 ([] : Bs) ((([115, 116, 97, 116, 101, 115, 32] : Bs) ++ t258) ++ ([10] : Bs))  hc263) ?_; rintro _ _ ⟨rfl, rfl⟩; refine At.nil (At.thn (At.seq (At.seq (At.region (At.run 1 rfl (At.y (Y.load rfl rfl (.s .z) rfl rfl rfl) rfl rfl rfl (At.run 2 rfl ?_))))))); refine At.nil (At.thn ?_); refine At.block ?_; obtain ⟨G1069, hl1070, hr1071, j⟩ := bjoin j; obtain ⟨o1072, hlo1073, ho1074⟩ := bsome j; clear j; unfold Q21.l0 at hlo1073; obtain ⟨m1075, hit1077⟩ := Q17.1 hlo1073; clear hlo1073; refine At.loopJ (X := Bs × Int) (Y := Bs) (e0 := 0) (fun s_ => [(1, .pointer (some ⟨b253, 0, none⟩)), (3, .pointer (some ⟨b257, 0, none⟩)), (20, .slice A0_2 a0_2.length c0_2), (21, .int .i64 (a0_2.length : Int)), (22, .int .i64 s_.2)]) (fun s_ => bld 101 5 b257 s_.1 :: pt b253 (.cells [.int .i64 a0_0, .slice A0_1 a0_1.length c0_1, .slice A0_2 a0_2.length c0_2, .slice A0_3 a0_3.length c0_3].toArray 26) :: Fr) (fun m_ => fun s_ => iterN (fun t_ : Bs × Int => Q21.l0b a0_1 a0_2 t_.1 t_.2) m_ (s_.1, s_.2) = some o1072) m1075 (t262, 0) hit1077 (fun x1068 => [(1, .pointer (some ⟨b253, 0, none⟩)), (3, .pointer (some ⟨b257, 0, none⟩))]) (fun x1068 => bld 101 5 b257 x1068 :: pt b253 (.cells [.int .i64 a0_0, .slice A0_1 a0_1.length c0_1, .slice A0_2 a0_2.length c0_2, .slice A0_3 a0_3.length c0_3].toArray 26) :: Fr) (fun x1068 => G1069 (.inl x1068) = some r) (fun a w e hs => ⟨e.sub ⟨rfl, rfl, rfl, rfl, rfl, trivial⟩, (by exact hs)⟩) ?_ (fun J1079 => ?_)
   ·rintro x1068 j; have j := (hl1070 _).symm.trans j
    ·refine At.ibx ?_; refine At.thn (At.seq (At.seq (At.region (At.run 1 rfl (At.y (Y.load rfl rfl (.s .z) rfl rfl rfl) rfl rfl rfl (At.run 2 rfl (At.nil ?_))))))); refine At.thn ?_; refine At.block ?_; obtain ⟨G1885, hl1886, hr1887, j⟩ := bjoin j; obtain ⟨o1888, hlo1889, ho1890⟩ := bsome j; clear j; unfold Q21.l1 at hlo1889; obtain ⟨m1891, hit1893⟩ := Q17.1 hlo1889; clear hlo1889; refine At.loopJ (X := Bs × Int) (Y := Bs) (e0 := 2) (fun s_ => [(3, .pointer (some ⟨b257, 0, none⟩)), (47, .slice A0_3 a0_3.length c0_3), (48, .int .i64 (a0_3.length : Int)), (49, .int .i64 s_.2)]) (fun s_ => bld 101 5 b257 s_.1 :: pt b253 (.cells [.int .i64 a0_0, .slice A0_1 a0_1.length c0_1, .slice A0_2 a0_2.length c0_2, .slice A0_3 a0_3.length c0_3].toArray 26) :: Fr) (fun m_ => fun s_ => iterN (fun t_ : Bs × Int => Q21.l1b a0_3 t_.1 t_.2) m_ (s_.1, s_.2) = some o1888) m1891 (x1068, 0) hit1893 (fun x1884 => [(3, .pointer (some ⟨b257, 0, none⟩))]) (fun x1884 => bld 101 5 b257 x1884 :: pt b253 (.cells [.int .i64 a0_0, .slice A0_1 a0_1.length c0_1, .slice A0_2 a0_2.length c0_2, .slice A0_3 a0_3.length c0_3].toArray 26) :: Fr) (fun x1884 => G1885 (.inl x1884) = some r) (fun a w e hs => ⟨e.sub ⟨rfl, rfl, rfl, rfl, trivial⟩, (by exact hs)⟩) ?_ (fun J1895 => ?_)
     ·rintro x1884 j; have j := (hl1886 _).symm.trans j
      ·refine At.ibx ?_; refine At.thn (At.seq (At.region ?_)); obtain ⟨t1896, hc1897, j⟩ := bbind j; refine At.call rfl Q125.callee rfl rfl rfl (Q125.spec _ _ b257 x1884  hc1897) ?_; rintro _ _ ⟨rfl, rfl⟩; refine At.run 1 rfl (At.nil (At.thn (At.ret (At.drop .z ?_)))); cases bret j; exact At.res (.inl rfl) rfl rfl ⟨rfl, rfl⟩
     ·clear hit1893 m1891; rintro m1891 ⟨x1682, x1683⟩ hit1893; obtain ⟨m1892, f_, hlt1894, hf_, j⟩ := bit hit1893; clear hit1893; have j : (Q21.l1b a0_3 x1682 x1683).bind _ = some o1888 := j; unfold Q21.l1b at j
      ·refine At.seq (At.region (At.run 1 rfl (At.nil (At.thn (At.seq ?_))))); rcases bite j with ⟨h1898, j⟩ | ⟨h1898, j⟩
       ··refine At.condT rfl (decide_eq_true h1898) ?_
         refine At.skip (At.thn (At.seq ?_)); refine At.block ?_; refine At.seq (At.region ?_); obtain ⟨h1899, j⟩ := bnone j; refine At.y (Y.ixRd hr0_3 rfl rfl rfl rfl rfl rfl rfl h1899.1 h1899.2) rfl rfl rfl ?_; obtain ⟨cs1900, hK1901, hy1902⟩ := RdS.whole (P := Tryz.prog) hr0_3 (Sub.refl _) rfl h1899.1 h1899.2; obtain ⟨_, _, rfl, rfl, ⟨A1903, c1904, rfl, hc1905, hr1906⟩⟩ := hK1901; refine At.y (hy1902 rfl rfl rfl rfl) rfl rfl rfl ?_; refine At.alloc rfl rfl rfl (fun b1907 => ?_); refine At.store rfl rfl rfl rfl .z rfl rfl rfl (.c (.c .n)) ?_; refine At.nil (At.thn (At.seq (At.region (At.run 1 rfl (At.y (Y.load rfl rfl .z rfl rfl rfl) rfl rfl rfl ?_))))); obtain ⟨h1908, j⟩ := bnone j; refine At.y (Y.addStr rfl rfl h1908) rfl rfl rfl ?_; refine At.f1 ?_; obtain ⟨t1909, hc1910, j⟩ := bbind j; refine At.call rfl Q48.callee rfl rfl rfl (Q48.spec _ _ b257 x1682 (([109, 97, 114, 107, 32] : Bs) ++ (gt a0_3 x1683).Name)  hc1910) ?_; rintro _ _ ⟨rfl, rfl⟩; refine At.nil (At.thn (At.seq (At.seq (At.region (At.run 1 rfl (At.y (Y.load rfl rfl (.s .z) rfl rfl rfl) rfl rfl rfl (At.run 2 rfl ?_))))))); refine At.nil (At.thn ?_); refine At.block ?_; obtain ⟨G2716, hl2717, hr2718, j⟩ := bjoin j; obtain ⟨o2719, hlo2720, ho2721⟩ := bsome j; clear j; unfold Q21.l2 at hlo2720; obtain ⟨m2722, hit2724⟩ := Q17.1 hlo2720; clear hlo2720; refine At.loopJ (X := Bs × Int) (Y := Bs) (e0 := 4) (fun s_ => [(3, .pointer (some ⟨b257, 0, none⟩)), (47, .slice A0_3 a0_3.length c0_3), (48, .int .i64 (a0_3.length : Int)), (49, .int .i64 x1683), (58, .slice A1903 ((gt a0_3 x1683).States.length) c1904), (59, .int .i64 ((gt a0_3 x1683).States.length : Int)), (60, .int .i64 s_.2)]) (fun s_ => bld 101 5 b257 s_.1 :: pt b1907 (.cells [.string ⟨((gt a0_3 x1683).Name).toArray⟩, .slice A1903 ((gt a0_3 x1683).States.length) c1904].toArray 37) :: pt b253 (.cells [.int .i64 a0_0, .slice A0_1 a0_1.length c0_1, .slice A0_2 a0_2.length c0_2, .slice A0_3 a0_3.length c0_3].toArray 26) :: Fr) (fun m_ => fun s_ => iterN (fun t_ : Bs × Int => Q21.l2b a0_3 x1683 t_.1 t_.2) m_ (s_.1, s_.2) = some o2719) m2722 (t1909, 0) hit2724 (fun x2715 => [(3, .pointer (some ⟨b257, 0, none⟩)), (47, .slice A0_3 a0_3.length c0_3), (48, .int .i64 (a0_3.length : Int)), (49, .int .i64 x1683)]) (fun x2715 => bld 101 5 b257 x2715 :: pt b1907 (.cells [.string ⟨((gt a0_3 x1683).Name).toArray⟩, .slice A1903 ((gt a0_3 x1683).States.length) c1904].toArray 37) :: pt b253 (.cells [.int .i64 a0_0, .slice A0_1 a0_1.length c0_1, .slice A0_2 a0_2.length c0_2, .slice A0_3 a0_3.length c0_3].toArray 26) :: Fr) (fun x2715 => G2716 (.inl x2715) = some o1888) (fun a w e hs => ⟨e.sub ⟨rfl, rfl, rfl, rfl, rfl, rfl, rfl, trivial⟩, (by exact hs)⟩) ?_ (fun J2726 => ?_)
         ·rintro x2715 j; have j := (hl2717 _).symm.trans j
          ·refine At.ibx ?_; refine At.thn (At.region ?_); obtain ⟨t2727, hc2728, j⟩ := bbind j; refine At.call rfl Q48.callee rfl rfl rfl (Q48.spec _ _ b257 x2715 ([10] : Bs)  hc2728) ?_; rintro _ _ ⟨rfl, rfl⟩; refine At.nil ?_; refine At.ibn ?_; refine At.thn (At.region (At.run 2 rfl (At.nil (At.drop (.s .z) ?_)))); have j := bnx hf_ j; exact fun a w e hs => ⟨m1892, (t2727, IntKind.i64.wrap (x1683 + 1)), hlt1894, j, e.sub ⟨rfl, rfl, rfl, rfl, trivial⟩, hs⟩
         ·clear hit2724 m2722; rintro m2722 ⟨x2513, x2514⟩ hit2724; obtain ⟨m2723, f_, hlt2725, hf_, j⟩ := bit hit2724; clear hit2724; have j : (Q21.l2b a0_3 x1683 x2513 x2514).bind _ = some o2719 := j; unfold Q21.l2b at j
          ·refine At.seq (At.region (At.run 1 rfl (At.nil (At.thn (At.seq ?_))))); rcases bite j with ⟨h2729, j⟩ | ⟨h2729, j⟩
           ··refine At.condT rfl (decide_eq_true h2729) ?_
             refine At.skip (At.thn (At.seq ?_)); refine At.block ?_; refine At.seq (At.region ?_); obtain ⟨h2730, j⟩ := bnone j; refine At.y (Y.ixRd hr1906 rfl rfl rfl rfl rfl rfl rfl h2730.1 h2730.2) rfl rfl rfl (At.y (Y.ldFl hr1906 rfl (q := 0) rfl rfl h2730.1 h2730.2 rfl rfl rfl) rfl rfl rfl (At.run 1 rfl (At.nil (At.thn (At.region (At.run 1 rfl ?_)))))); obtain ⟨t2731, hc2732, j⟩ := bbind j; refine At.call rfl Q66.callee rfl rfl rfl (Q66.spec _ _  (gt ((gt a0_3 x1683).States) x2514)  hc2732) ?_; rintro _ _ ⟨rfl, rfl⟩; obtain ⟨h2733, j⟩ := bnone j; refine At.y (Y.addStr rfl rfl h2733) rfl rfl rfl ?_; obtain ⟨t2734, hc2735, j⟩ := bbind j; refine At.call rfl Q48.callee rfl rfl rfl (Q48.spec _ _ b257 x2513 (([32] : Bs) ++ t2731)  hc2735) ?_; rintro _ _ ⟨rfl, rfl⟩; refine At.nil ?_; refine At.ibn ?_; refine At.thn (At.region (At.run 2 rfl (At.nil ?_))); have j := bnx hf_ j; exact fun a w e hs => ⟨m2723, (t2734, IntKind.i64.wrap (x2514 + 1)), hlt2725, j, e.sub ⟨rfl, rfl, rfl, rfl, rfl, rfl, rfl, trivial⟩, hs⟩
           ··refine At.condF rfl (decide_eq_false h2729) ?_
             refine At.exit ?_; refine At.the ?_; refine At.the ?_; exact fun a w e hs => J2726 x2513 (bdn j ho2721) a w (e.sub ⟨rfl, rfl, rfl, rfl, trivial⟩) hs
       ··refine At.condF rfl (decide_eq_false h1898) ?_
         refine At.exit ?_; refine At.the ?_; refine At.the ?_; exact fun a w e hs => J1895 x1682 (bdn j ho1890) a w (e.sub ⟨rfl, trivial⟩) hs
   ·clear hit1077 m1075; rintro m1075 ⟨x866, x867⟩ hit1077; obtain ⟨m1076, f_, hlt1078, hf_, j⟩ := bit hit1077; clear hit1077; have j : (Q21.l0b a0_1 a0_2 x866 x867).bind _ = some o1072 := j; unfold Q21.l0b at j
    ·refine At.seq (At.region (At.run 1 rfl (At.nil (At.thn (At.seq ?_))))); rcases bite j with ⟨h2736, j⟩ | ⟨h2736, j⟩
     ··refine At.condT rfl (decide_eq_true h2736) ?_
       refine At.skip (At.thn (At.seq ?_)); refine At.block ?_; refine At.seq (At.region ?_); obtain ⟨h2737, j⟩ := bnone j; refine At.y (Y.ixRd hr0_2 rfl rfl rfl rfl rfl rfl rfl h2737.1 h2737.2) rfl rfl rfl (At.y (Y.ldFl hr0_2 rfl (q := 0) rfl rfl h2737.1 h2737.2 rfl rfl rfl) rfl rfl rfl ?_); refine At.alloc rfl rfl rfl (fun b2738 => ?_); refine At.store rfl rfl rfl rfl .z rfl rfl rfl (.c (.c (.c .n))) ?_; refine At.nil (At.thn ?_); refine At.held [pt b2738 (.cells [.int .i64 ((gt a0_2 x867).From), .int .i64 ((gt a0_2 x867).Action), .int .i64 ((gt a0_2 x867).To)].toArray 35), pt b253 (.cells [.int .i64 a0_0, .slice A0_1 a0_1.length c0_1, .slice A0_2 a0_2.length c0_2, .slice A0_3 a0_3.length c0_3].toArray 26)] 19 rfl ?_; refine At.H.pw 0 rfl rfl rfl rfl rfl (.c .z (.c (.s .z) .n)) ?_; refine At.H.tw 1 rfl (Y.load rfl rfl .z rfl rfl rfl) rfl rfl rfl (.c .z (.c (.s .z) .n)) ?_; refine At.H.pw 5 rfl rfl rfl rfl rfl (.c .z (.c (.s .z) .n)) ?_; refine At.H.tw 6 rfl (Y.load rfl rfl (.s .z) rfl rfl rfl) rfl rfl rfl (.c .z (.c (.s .z) .n)) ?_; refine At.H.pw 7 rfl rfl rfl rfl rfl (.c .z (.c (.s .z) .n)) ?_; refine At.H.tw 8 rfl (Y.load rfl rfl .z rfl rfl rfl) rfl rfl rfl (.c .z (.c (.s .z) .n)) ?_; obtain ⟨h2745, j⟩ := bnone j; refine At.H.tw 9 rfl (Y.ixRd hr0_1 rfl rfl rfl rfl rfl rfl rfl h2745.1 h2745.2) rfl rfl rfl (.c .z (.c (.s .z) .n)) ?_; refine At.H.tw 10 rfl (Y.ldFl hr0_1 rfl (q := 0) rfl rfl h2745.1 h2745.2 rfl rfl rfl) rfl rfl rfl (.c .z (.c (.s .z) .n)) ?_; refine At.H.pw 13 rfl rfl rfl rfl rfl (.c .z (.c (.s .z) .n)) ?_; refine At.H.tw 14 rfl (Y.load rfl rfl .z rfl rfl rfl) rfl rfl rfl (.c .z (.c (.s .z) .n)) ?_; refine At.H.al [2] (Q12 ?_ Q14)
       ··refine At.HO.op rfl ?_
         obtain ⟨t2746, hc2747, j⟩ := bbind j; refine At.call rfl Q66.callee rfl rfl rfl (Q66.spec _ _  ((gt a0_2 x867).From)  hc2747) ?_; rintro _ _ ⟨rfl, rfl⟩; refine At.HO.back (.c .z (.c (.s .z) .n)) ?_; obtain ⟨h2748, j⟩ := bnone j; refine At.H.tw 3 rfl (Y.addStr rfl rfl h2748) rfl rfl rfl (.c .z (.c (.s .z) .n)) ?_; obtain ⟨h2749, j⟩ := bnone j; refine At.H.tw 4 rfl (Y.addStr rfl rfl h2749) rfl rfl rfl (.c .z (.c (.s .z) .n)) ?_; obtain ⟨h2750, j⟩ := bnone j; refine At.H.tw 11 rfl (Y.addStr rfl rfl h2750) rfl rfl rfl (.c .z (.c (.s .z) .n)) ?_; obtain ⟨h2751, j⟩ := bnone j; refine At.H.tw 12 rfl (Y.addStr rfl rfl h2751) rfl rfl rfl (.c .z (.c (.s .z) .n)) ?_; refine At.H.al [15] (Q12 ?_ Q14)
         ··refine At.HO.op rfl ?_
           obtain ⟨t2752, hc2753, j⟩ := bbind j; refine At.call rfl Q66.callee rfl rfl rfl (Q66.spec _ _  ((gt a0_2 x867).To)  hc2753) ?_; rintro _ _ ⟨rfl, rfl⟩; refine At.HO.back (.c .z (.c (.s .z) .n)) ?_; obtain ⟨h2754, j⟩ := bnone j; refine At.H.tw 16 rfl (Y.addStr rfl rfl h2754) rfl rfl rfl (.c .z (.c (.s .z) .n)) ?_; obtain ⟨h2755, j⟩ := bnone j; refine At.H.tw 17 rfl (Y.addStr rfl rfl h2755) rfl rfl rfl (.c .z (.c (.s .z) .n)) ?_; refine At.H.al [18] (Q12 ?_ Q14)
           ··refine At.HO.op rfl ?_
             refine At.f1 ?_; obtain ⟨t2756, hc2757, j⟩ := bbind j; refine At.call rfl Q48.callee rfl rfl rfl (Q48.spec _ _ b257 x866 ((((((([101, 100, 103, 101, 32] : Bs) ++ t2746) ++ ([32] : Bs)) ++ gt a0_1 ((gt a0_2 x867).Action)) ++ ([32] : Bs)) ++ t2752) ++ ([10] : Bs))  hc2757) ?_; rintro _ _ ⟨rfl, rfl⟩; refine At.HO.back (.c (.s .z) (.c (.s .z) .n)) ?_; refine At.H.done (by kernel_rfl) ?_; refine At.ibn ?_; refine At.thn (At.region (At.run 2 rfl (At.nil (At.drop (.s .z) ?_)))); have j := bnx hf_ j; exact fun a w e hs => ⟨m1076, (t2756, IntKind.i64.wrap (x867 + 1)), hlt1078, j, e.sub ⟨rfl, rfl, rfl, rfl, rfl, trivial⟩, hs⟩
     ··refine At.condF rfl (decide_eq_false h2736) ?_
       refine At.exit ?_; refine At.the ?_; refine At.the ?_; exact fun a w e hs => J1079 x866 (bdn j ho1074) a w (e.sub ⟨rfl, rfl, trivial⟩) hs
 ··refine At.condT rfl (nt (bn h256)) ?_
   refine At.seq (At.region (At.run 1 rfl (At.nil (At.thn (At.ret (At.thr (At.drop .z ?_))))))); cases bret j; exact At.res (.inl rfl) rfl rfl ⟨rfl, rfl⟩

noncomputable def Q16.l2b (a0_2 a1_2 x2926 : List Q0) (x2927 : Int) : Option (((List Q0) × Int) ⊕ (((List Q0)) ⊕ ((List Bs) × (List Q0) × (List Q6) × Bool))) :=
 if x2927 < ((a0_2.take (IntKind.i64.wrap ((a1_2.length : Int) + 1)).toNat).length : Int) then
 if (0 : Int) ≤ x2927 ∧ x2927 < ((a0_2.take (IntKind.i64.wrap ((a1_2.length : Int) + 1)).toNat).length : Int) then
 if (0 : Int) ≤ x2927 ∧ x2927 < (a0_2.length : Int) then
 nx ((st x2926 x2927 (⟨99, 0, 0⟩ : Q0)), IntKind.i64.wrap (x2927 + 1))
 else none
 else none
 else
 dn (.inl x2926)
noncomputable def Q16.l2 (a0_2 a1_2 x2926 : List Q0) (x2927 : Int) : Option (((List Q0)) ⊕ ((List Bs) × (List Q0) × (List Q6) × Bool)) := iter (fun t_ : (List Q0) × Int => Q16.l2b a0_2 a1_2 t_.1 t_.2) (x2926, x2927)
noncomputable def Q16.l1b (a0_1 a1_1 x2110 : List Bs) (x2111 : Int) : Option (((List Bs) × Int) ⊕ (((List Bs)) ⊕ ((List Bs) × (List Q0) × (List Q6) × Bool))) :=
 if x2111 < ((a0_1.take (IntKind.i64.wrap ((a1_1.length : Int) + 1)).toNat).length : Int) then
 if (0 : Int) ≤ x2111 ∧ x2111 < ((a0_1.take (IntKind.i64.wrap ((a1_1.length : Int) + 1)).toNat).length : Int) then
 if (0 : Int) ≤ x2111 ∧ x2111 < (a0_1.length : Int) then
 nx ((st x2110 x2111 ([33] : Bs)), IntKind.i64.wrap (x2111 + 1))
 else none
 else none
 else
 dn (.inl x2110)
noncomputable def Q16.l1 (a0_1 a1_1 x2110 : List Bs) (x2111 : Int) : Option (((List Bs)) ⊕ ((List Bs) × (List Q0) × (List Q6) × Bool)) := iter (fun t_ : (List Bs) × Int => Q16.l1b a0_1 a1_1 t_.1 t_.2) (x2110, x2111)
noncomputable def Q16.l3b (a1_3 : List Q1) (x1294 : List Q6) (x1295 : Int) (x3766 : List Int) (x3767 : Int) : Option (((List Int) × Int) ⊕ (((List Int)) ⊕ (((List Q6) × Int) ⊕ (((List Q6)) ⊕ ((List Bs) × (List Q0) × (List Q6) × Bool))))) :=
 if x3767 < ((((gt x1294 x1295).States.1 ++ (gt x1294 x1295).States.2).take (IntKind.i64.wrap (((gt a1_3 x1295).States.length : Int) + 1)).toNat).length : Int) then
 if (0 : Int) ≤ x3767 ∧ x3767 < ((((gt x1294 x1295).States.1 ++ (gt x1294 x1295).States.2).take (IntKind.i64.wrap (((gt a1_3 x1295).States.length : Int) + 1)).toNat).length : Int) then
 if (0 : Int) ≤ x3767 ∧ x3767 < (((gt x1294 x1295).States.1 ++ (gt x1294 x1295).States.2).length : Int) then
 nx ((st x3766 x3767 99), IntKind.i64.wrap (x3767 + 1))
 else none
 else none
 else
 dn (.inl x3766)
noncomputable def Q16.l3 (a1_3 : List Q1) (x1294 : List Q6) (x1295 : Int) (x3766 : List Int) (x3767 : Int) : Option (((List Int)) ⊕ (((List Q6) × Int) ⊕ (((List Q6)) ⊕ ((List Bs) × (List Q0) × (List Q6) × Bool)))) := iter (fun t_ : (List Int) × Int => Q16.l3b a1_3 x1294 x1295 t_.1 t_.2) (x3766, x3767)
noncomputable def Q16.l0b (a0_1 : List Bs) (a0_2 : List Q0) (a0_3 : List Q6) (a1_3 : List Q1) (x1294 : List Q6) (x1295 : Int) : Option (((List Q6) × Int) ⊕ (((List Q6)) ⊕ ((List Bs) × (List Q0) × (List Q6) × Bool))) :=
 if x1295 < (a1_3.length : Int) then
 if (0 : Int) ≤ x1295 ∧ x1295 < (a0_3.length : Int) then
 if (0 : Int) ≤ x1295 ∧ x1295 < (a1_3.length : Int) then
 if (0 : Int) ≤ IntKind.i64.wrap (((gt a1_3 x1295).States.length : Int) + 1) ∧ IntKind.i64.wrap (((gt a1_3 x1295).States.length : Int) + 1) ≤ (((gt x1294 x1295).States.1 ++ (gt x1294 x1295).States.2).length : Int) then
 if (0 : Int) ≤ IntKind.i64.wrap (((((gt x1294 x1295).States.1 ++ (gt x1294 x1295).States.2).take (IntKind.i64.wrap (((gt a1_3 x1295).States.length : Int) + 1)).toNat).length : Int) - 1) ∧ IntKind.i64.wrap (((((gt x1294 x1295).States.1 ++ (gt x1294 x1295).States.2).take (IntKind.i64.wrap (((gt a1_3 x1295).States.length : Int) + 1)).toNat).length : Int) - 1) < ((((gt x1294 x1295).States.1 ++ (gt x1294 x1295).States.2).take (IntKind.i64.wrap (((gt a1_3 x1295).States.length : Int) + 1)).toNat).length : Int) then
 if (0 : Int) ≤ IntKind.i64.wrap (((((gt x1294 x1295).States.1 ++ (gt x1294 x1295).States.2).take (IntKind.i64.wrap (((gt a1_3 x1295).States.length : Int) + 1)).toNat).length : Int) - 1) ∧ IntKind.i64.wrap (((((gt x1294 x1295).States.1 ++ (gt x1294 x1295).States.2).take (IntKind.i64.wrap (((gt a1_3 x1295).States.length : Int) + 1)).toNat).length : Int) - 1) < (((gt x1294 x1295).States.1 ++ (gt x1294 x1295).States.2).length : Int) then
 if gt ((gt x1294 x1295).States.1 ++ (gt x1294 x1295).States.2) (IntKind.i64.wrap (((((gt x1294 x1295).States.1 ++ (gt x1294 x1295).States.2).take (IntKind.i64.wrap (((gt a1_3 x1295).States.length : Int) + 1)).toNat).length : Int) - 1)) = (-7) then
 jn (Q16.l3 a1_3 x1294 x1295 ((gt x1294 x1295).States.1 ++ (gt x1294 x1295).States.2) 0) (fun (x3968 : List Int) =>
 if (x3968.take (gt x1294 x1295).States.1.length).length = (((gt x1294 x1295).States.1 ++ (gt x1294 x1295).States.2).take (gt x1294 x1295).States.1.length).length then
 nx ((st x1294 x1295 (⟨([33] : Bs), (x3968.take (gt x1294 x1295).States.1.length, x3968.drop (gt x1294 x1295).States.1.length)⟩ : Q6)), IntKind.i64.wrap (x1295 + 1))
 else none)
 else
 upL (some (a0_1, a0_2, (st x1294 x1295 (⟨((gt x1294 x1295).Name), (((gt x1294 x1295).States.1 ++ (gt x1294 x1295).States.2).take (gt x1294 x1295).States.1.length, ((gt x1294 x1295).States.1 ++ (gt x1294 x1295).States.2).drop (gt x1294 x1295).States.1.length)⟩ : Q6)), false))
 else none
 else none
 else none
 else none
 else none
 else
 dn (.inl x1294)
noncomputable def Q16.l0 (a0_1 : List Bs) (a0_2 : List Q0) (a0_3 : List Q6) (a1_3 : List Q1) (x1294 : List Q6) (x1295 : Int) : Option (((List Q6)) ⊕ ((List Bs) × (List Q0) × (List Q6) × Bool)) := iter (fun t_ : (List Q6) × Int => Q16.l0b a0_1 a0_2 a0_3 a1_3 t_.1 t_.2) (x1294, x1295)
noncomputable def Q16.f (a0_0 : Int) (a0_1 : List Bs) (k0_1 : Nat) (a0_2 : List Q0) (k0_2 : Nat) (a0_3 : List Q6) (a1_0 : Int) (a1_1 : List Bs) (a1_2 : List Q0) (a1_3 : List Q1) : Option ((List Bs) × (List Q0) × (List Q6) × Bool) :=
 (Q15.f a0_0 (a0_1.take k0_1) (a0_2.take k0_2) (a0_3.map Q6.pl) a1_0 a1_1 a1_2 a1_3).bind fun t277 =>
 if (0 : Int) ≤ IntKind.i64.wrap ((a1_1.length : Int) + 1) ∧ IntKind.i64.wrap ((a1_1.length : Int) + 1) ≤ (a0_1.length : Int) then
 if (0 : Int) ≤ IntKind.i64.wrap ((a1_2.length : Int) + 1) ∧ IntKind.i64.wrap ((a1_2.length : Int) + 1) ≤ (a0_2.length : Int) then
 jn (
 if t277 = true then
 if (0 : Int) ≤ (a1_1.length : Int) ∧ (a1_1.length : Int) < ((a0_1.take (IntKind.i64.wrap ((a1_1.length : Int) + 1)).toNat).length : Int) then
 if (0 : Int) ≤ (a1_1.length : Int) ∧ (a1_1.length : Int) < (a0_1.length : Int) then
 some (.inl (!(bseq (gt a0_1 (a1_1.length : Int)) ([33] : Bs))))
 else none
 else none
 else
 some (.inl true)) (fun (x481 : Bool) =>
 jn (
 if x481 = true then
 some (.inl true)
 else
 if (0 : Int) ≤ (a1_2.length : Int) ∧ (a1_2.length : Int) < ((a0_2.take (IntKind.i64.wrap ((a1_2.length : Int) + 1)).toNat).length : Int) then
 if (0 : Int) ≤ (a1_2.length : Int) ∧ (a1_2.length : Int) < (a0_2.length : Int) then
 some (.inl (!(decide ((gt a0_2 (a1_2.length : Int)).From = (-7)))))
 else none
 else none) (fun (x686 : Bool) =>
 if x686 = true then
 some (a0_1, a0_2, a0_3, false)
 else
 jn (Q16.l0 a0_1 a0_2 a0_3 a1_3 a0_3 0) (fun (x1496 : List Q6) =>
 jn (Q16.l1 a0_1 a1_1 a0_1 0) (fun (x2312 : List Bs) =>
 jn (Q16.l2 a0_2 a1_2 a0_2 0) (fun (x3128 : List Q0) =>
 some (x2312, x3128, x1496, true))))))
 else none
 else none
theorem Q16.callee : Callee Tryz.prog 27 := ⟨_, Tryz.func27, by kernel_rfl, by kernel_rfl⟩
theorem Q16.spec (R : Res) (Fr : List HProp) (A0_1 : Option Addr) (c0_1 : Nat) (A0_2 : Option Addr) (c0_2 : Nat) (A0_3 : Option Addr) (n0_3 : Nat) (c0_3 : Nat) (A1_1 : Option Addr) (n1_1 : Nat) (c1_1 : Nat) (A1_2 : Option Addr) (n1_2 : Nat) (c1_2 : Nat) (A1_3 : Option Addr) (n1_3 : Nat) (c1_3 : Nat) (a0_0 : Int) (a0_1 : List Bs) (k0_1 : Nat) (a0_2 : List Q0) (k0_2 : Nat) (a0_3 : List Q6) (a1_0 : Int) (a1_1 : List Bs) (a1_2 : List Q0) (a1_3 : List Q1) (hn0_3 : a0_3.length = n0_3) (hr1_1 : RdS Fl.bs.rep R.heap A1_1 a1_1) (hn1_1 : a1_1.length = n1_1) (hc1_1 : n1_1 ≤ c1_1) (hr1_2 : RdS Q0.fl.rep R.heap A1_2 a1_2) (hn1_2 : a1_2.length = n1_2) (hc1_2 : n1_2 ≤ c1_2) (hr1_3 : RdS Q1.rep R.heap A1_3 a1_3) (hn1_3 : a1_3.length = n1_3) (hc1_3 : n1_3 ≤ c1_3) {r : (List Bs) × (List Q0) × (List Q6) × Bool} (j : Q16.f a0_0 a0_1 k0_1 a0_2 k0_2 a0_3 a1_0 a1_1 a1_2 a1_3 = some r) :
 Spec Tryz.prog 27 [.agg #[.int .i64 a0_0, .slice A0_1 ((a0_1.take k0_1).length) c0_1, .slice A0_2 ((a0_2.take k0_2).length) c0_2, .slice A0_3 n0_3 c0_3], .agg #[.int .i64 a1_0, .slice A1_1 n1_1 c1_1, .slice A1_2 n1_2 c1_2, .slice A1_3 n1_3 c1_3]] R (row Fl.bs 9 A0_1 a0_1.length c0_1 a0_1 :: row Q0.fl 35 A0_2 a0_2.length c0_2 a0_2 :: grow Q6.ow 37 A0_3 n0_3 c0_3 a0_3 :: Fr) (fun v l' => v = .bool r.2.2.2 ∧ row Fl.bs 9 A0_1 a0_1.length c0_1 r.1 :: row Q0.fl 35 A0_2 a0_2.length c0_2 r.2.1 :: grow Q6.ow 37 A0_3 n0_3 c0_3 r.2.2.1 :: Fr = l') := by
 subst hn0_3; subst hn1_1; subst hn1_2; subst hn1_3; refine Spec.of Tryz.func27 rfl rfl ?_; unfold Q16.f at j; have j := brun j; refine At.seq (At.region ?_); refine At.box rfl rfl (cs := [.int .i64 a0_0, .slice A0_1 ((a0_1.take k0_1).length) c0_1, .slice A0_2 ((a0_2.take k0_2).length) c0_2, .slice A0_3 a0_3.length c0_3]) rfl rfl (fun b257 => ?_); refine At.box rfl rfl (cs := [.int .i64 a1_0, .slice A1_1 a1_1.length c1_1, .slice A1_2 a1_2.length c1_2, .slice A1_3 a1_3.length c1_3]) rfl rfl (fun b258 => ?_); refine At.run 1 rfl (At.nil (At.thn (At.seq (At.region (At.y (Y.load rfl rfl (.s .z) rfl rfl rfl) rfl rfl rfl (At.y (Y.load rfl rfl .z rfl rfl rfl) rfl rfl rfl ?_)))))); refine At.freeze (.s (.s .z)) fun R259 hr260 hn261 hc262 hs263 th264 => ?_; refine At.freeze (.s (.s .z)) fun R265 hr266 hn267 hc268 hs269 th270 => ?_; refine At.freezeGrow (.s (.s .z)) fun R271 hr272 hn273 hc274 hs275 th276 => ?_; obtain ⟨t277, hc278, j⟩ := bbind j; refine At.call rfl Q15.callee rfl rfl rfl (Q15.spec _ _ A0_1 ((a0_1.take k0_1).length) c0_1 A0_2 ((a0_2.take k0_2).length) c0_2 A0_3 a0_3.length c0_3 A1_1 a1_1.length c1_1 A1_2 a1_2.length c1_2 A1_3 a1_3.length c1_3 a0_0 (a0_1.take k0_1) (a0_2.take k0_2) (a0_3.map Q6.pl) a1_0 a1_1 a1_2 a1_3 (RdS.mono (hs269.trans hs275) (RdS.take hr260 _)) rfl (Nat.le_trans (List.length_take_le' _ _) (Nat.le_trans (Nat.le_of_eq hn261) hc262)) (RdS.mono hs275 (RdS.take hr266 _)) rfl (Nat.le_trans (List.length_take_le' _ _) (Nat.le_trans (Nat.le_of_eq hn267) hc268)) (RdS.le Q6.le hr272) ((List.length_map _).trans hn273) hc274 (RdS.mono ((hs263.trans hs269).trans hs275) hr1_1) rfl hc1_1 (RdS.mono ((hs263.trans hs269).trans hs275) hr1_2) rfl hc1_2 (RdS.mono ((hs263.trans hs269).trans hs275) hr1_3) rfl hc1_3 hc278) ?_; rintro _ _ ⟨rfl, rfl⟩; refine At.run 1 rfl (At.nil (At.thn (At.seq (At.region (At.run 1 rfl (At.y (Y.load rfl rfl (.s .z) rfl rfl rfl) rfl rfl rfl (At.run 1 rfl ?_))))))); refine At.y (Y.load rfl rfl .z rfl rfl rfl) rfl rfl rfl (At.run 2 rfl ?_); refine At.thaw th276 ?_; refine At.thaw th270 ?_; refine At.thaw th264 ?_; obtain ⟨h279, j⟩ := bnone j; refine At.y (Y.slView .z rfl rfl rfl rfl rfl h279.1 h279.2) rfl rfl rfl ?_; refine At.run 1 rfl (At.nil (At.thn (At.seq (At.region (At.run 1 rfl ?_))))); refine At.y (Y.load rfl rfl (.s (.s (.s (.s .z)))) rfl rfl rfl) rfl rfl rfl ?_; refine At.run 1 rfl (At.y (Y.load rfl rfl (.s (.s (.s .z))) rfl rfl rfl) rfl rfl rfl (At.run 2 rfl ?_)); obtain ⟨h280, j⟩ := bnone j; refine At.y (Y.slView (.s .z) rfl rfl rfl rfl rfl h280.1 h280.2) rfl rfl rfl ?_; refine At.run 1 rfl (At.nil (At.thn (At.seq (At.seq (At.region (At.run 3 rfl ?_)))))); obtain ⟨G482, hl483, hr484, j⟩ := bjoin j; refine At.joinO 8 (X := Bool) (fun x481 => [(2, .pointer (some ⟨b257, 0, none⟩)), (3, .pointer (some ⟨b258, 0, none⟩)), (6, .slice A0_1 ((a0_1.take (IntKind.i64.wrap ((a1_1.length : Int) + 1)).toNat).length) c0_1), (7, .slice A0_2 ((a0_2.take (IntKind.i64.wrap ((a1_2.length : Int) + 1)).toNat).length) c0_2), (40, .bool x481)]) (fun x481 => row Fl.bs 9 A0_1 a0_1.length c0_1 a0_1 :: row Q0.fl 35 A0_2 a0_2.length c0_2 a0_2 :: grow Q6.ow 37 A0_3 a0_3.length c0_3 a0_3 :: pt b258 (.cells [.int .i64 a1_0, .slice A1_1 a1_1.length c1_1, .slice A1_2 a1_2.length c1_2, .slice A1_3 a1_3.length c1_3].toArray 26) :: pt b257 (.cells [.int .i64 a0_0, .slice A0_1 ((a0_1.take k0_1).length) c0_1, .slice A0_2 ((a0_2.take k0_2).length) c0_2, .slice A0_3 a0_3.length c0_3].toArray 26) :: Fr) (fun x481 => G482 (.inl x481) = some r) ?_ (fun J485 => ?_)
 ·rintro x481 j; have j := (hl483 _).symm.trans j
  ·refine At.run 1 rfl ?_; obtain ⟨G687, hl688, hr689, j⟩ := bjoin j; refine At.joinO 9 (X := Bool) (fun x686 => [(2, .pointer (some ⟨b257, 0, none⟩)), (3, .pointer (some ⟨b258, 0, none⟩)), (6, .slice A0_1 ((a0_1.take (IntKind.i64.wrap ((a1_1.length : Int) + 1)).toNat).length) c0_1), (7, .slice A0_2 ((a0_2.take (IntKind.i64.wrap ((a1_2.length : Int) + 1)).toNat).length) c0_2), (50, .bool x686)]) (fun x686 => row Fl.bs 9 A0_1 a0_1.length c0_1 a0_1 :: row Q0.fl 35 A0_2 a0_2.length c0_2 a0_2 :: grow Q6.ow 37 A0_3 a0_3.length c0_3 a0_3 :: pt b258 (.cells [.int .i64 a1_0, .slice A1_1 a1_1.length c1_1, .slice A1_2 a1_2.length c1_2, .slice A1_3 a1_3.length c1_3].toArray 26) :: pt b257 (.cells [.int .i64 a0_0, .slice A0_1 ((a0_1.take k0_1).length) c0_1, .slice A0_2 ((a0_2.take k0_2).length) c0_2, .slice A0_3 a0_3.length c0_3].toArray 26) :: Fr) (fun x686 => G687 (.inl x686) = some r) ?_ (fun J690 => ?_)
   ·rintro x686 j; have j := (hl688 _).symm.trans j
    ·refine At.nil (At.thn ?_); rcases bite j with ⟨h691, j⟩ | ⟨h691, j⟩
     ··refine At.condT rfl h691 ?_
       refine At.seq (At.region (At.run 1 rfl (At.nil (At.thn (At.ret (At.thr (At.drop (.s (.s (.s .z))) ?_))))))); refine At.drop (.s (.s (.s .z))) ?_; cases bret j; exact At.res (.inl rfl) rfl rfl ⟨rfl, rfl⟩
     ··refine At.condF rfl (bn h691) ?_
       refine At.skip (At.thn (At.seq (At.seq (At.region (At.run 1 rfl (At.nil (At.thn ?_))))))); refine At.block ?_; obtain ⟨G1497, hl1498, hr1499, j⟩ := bjoin j; obtain ⟨o1500, hlo1501, ho1502⟩ := bsome j; clear j; unfold Q16.l0 at hlo1501; obtain ⟨m1503, hit1505⟩ := Q17.1 hlo1501; clear hlo1501; refine At.loopJ (X := (List Q6) × Int) (Y := (List Q6)) (e0 := 0) (fun s_ => [(2, .pointer (some ⟨b257, 0, none⟩)), (3, .pointer (some ⟨b258, 0, none⟩)), (6, .slice A0_1 ((a0_1.take (IntKind.i64.wrap ((a1_1.length : Int) + 1)).toNat).length) c0_1), (7, .slice A0_2 ((a0_2.take (IntKind.i64.wrap ((a1_2.length : Int) + 1)).toNat).length) c0_2), (8, .int .i64 s_.2)]) (fun s_ => row Fl.bs 9 A0_1 a0_1.length c0_1 a0_1 :: row Q0.fl 35 A0_2 a0_2.length c0_2 a0_2 :: grow Q6.ow 37 A0_3 a0_3.length c0_3 s_.1 :: pt b258 (.cells [.int .i64 a1_0, .slice A1_1 a1_1.length c1_1, .slice A1_2 a1_2.length c1_2, .slice A1_3 a1_3.length c1_3].toArray 26) :: pt b257 (.cells [.int .i64 a0_0, .slice A0_1 ((a0_1.take k0_1).length) c0_1, .slice A0_2 ((a0_2.take k0_2).length) c0_2, .slice A0_3 a0_3.length c0_3].toArray 26) :: Fr) (fun m_ => fun s_ => iterN (fun t_ : (List Q6) × Int => Q16.l0b a0_1 a0_2 a0_3 a1_3 t_.1 t_.2) m_ (s_.1, s_.2) = some o1500) m1503 (a0_3, 0) hit1505 (fun x1496 => [(6, .slice A0_1 ((a0_1.take (IntKind.i64.wrap ((a1_1.length : Int) + 1)).toNat).length) c0_1), (7, .slice A0_2 ((a0_2.take (IntKind.i64.wrap ((a1_2.length : Int) + 1)).toNat).length) c0_2)]) (fun x1496 => row Fl.bs 9 A0_1 a0_1.length c0_1 a0_1 :: row Q0.fl 35 A0_2 a0_2.length c0_2 a0_2 :: grow Q6.ow 37 A0_3 a0_3.length c0_3 x1496 :: pt b258 (.cells [.int .i64 a1_0, .slice A1_1 a1_1.length c1_1, .slice A1_2 a1_2.length c1_2, .slice A1_3 a1_3.length c1_3].toArray 26) :: pt b257 (.cells [.int .i64 a0_0, .slice A0_1 ((a0_1.take k0_1).length) c0_1, .slice A0_2 ((a0_2.take k0_2).length) c0_2, .slice A0_3 a0_3.length c0_3].toArray 26) :: Fr) (fun x1496 => G1497 (.inl x1496) = some r) (fun a w e hs => ⟨e.sub ⟨rfl, rfl, rfl, rfl, rfl, trivial⟩, (by exact hs)⟩) ?_ (fun J1507 => ?_)
       ·rintro x1496 j; have j := (hl1498 _).symm.trans j
        ·refine At.ibx ?_; refine At.thn (At.seq (At.seq (At.region (At.run 1 rfl (At.nil (At.thn ?_)))))); refine At.block ?_; obtain ⟨G2313, hl2314, hr2315, j⟩ := bjoin j; obtain ⟨o2316, hlo2317, ho2318⟩ := bsome j; clear j; unfold Q16.l1 at hlo2317; obtain ⟨m2319, hit2321⟩ := Q17.1 hlo2317; clear hlo2317; refine At.loopJ (X := (List Bs) × Int) (Y := (List Bs)) (e0 := 4) (fun s_ => [(6, .slice A0_1 ((a0_1.take (IntKind.i64.wrap ((a1_1.length : Int) + 1)).toNat).length) c0_1), (7, .slice A0_2 ((a0_2.take (IntKind.i64.wrap ((a1_2.length : Int) + 1)).toNat).length) c0_2), (11, .int .i64 s_.2)]) (fun s_ => row Fl.bs 9 A0_1 a0_1.length c0_1 s_.1 :: row Q0.fl 35 A0_2 a0_2.length c0_2 a0_2 :: grow Q6.ow 37 A0_3 a0_3.length c0_3 x1496 :: pt b258 (.cells [.int .i64 a1_0, .slice A1_1 a1_1.length c1_1, .slice A1_2 a1_2.length c1_2, .slice A1_3 a1_3.length c1_3].toArray 26) :: pt b257 (.cells [.int .i64 a0_0, .slice A0_1 ((a0_1.take k0_1).length) c0_1, .slice A0_2 ((a0_2.take k0_2).length) c0_2, .slice A0_3 a0_3.length c0_3].toArray 26) :: Fr) (fun m_ => fun s_ => iterN (fun t_ : (List Bs) × Int => Q16.l1b a0_1 a1_1 t_.1 t_.2) m_ (s_.1, s_.2) = some o2316) m2319 (a0_1, 0) hit2321 (fun x2312 => [(7, .slice A0_2 ((a0_2.take (IntKind.i64.wrap ((a1_2.length : Int) + 1)).toNat).length) c0_2)]) (fun x2312 => row Fl.bs 9 A0_1 a0_1.length c0_1 x2312 :: row Q0.fl 35 A0_2 a0_2.length c0_2 a0_2 :: grow Q6.ow 37 A0_3 a0_3.length c0_3 x1496 :: pt b258 (.cells [.int .i64 a1_0, .slice A1_1 a1_1.length c1_1, .slice A1_2 a1_2.length c1_2, .slice A1_3 a1_3.length c1_3].toArray 26) :: pt b257 (.cells [.int .i64 a0_0, .slice A0_1 ((a0_1.take k0_1).length) c0_1, .slice A0_2 ((a0_2.take k0_2).length) c0_2, .slice A0_3 a0_3.length c0_3].toArray 26) :: Fr) (fun x2312 => G2313 (.inl x2312) = some r) (fun a w e hs => ⟨e.sub ⟨rfl, rfl, rfl, trivial⟩, (by exact hs)⟩) ?_ (fun J2323 => ?_)
         ·rintro x2312 j; have j := (hl2314 _).symm.trans j
          ·refine At.ibx ?_; refine At.thn (At.seq (At.seq (At.region (At.run 1 rfl (At.nil (At.thn ?_)))))); refine At.block ?_; obtain ⟨G3129, hl3130, hr3131, j⟩ := bjoin j; obtain ⟨o3132, hlo3133, ho3134⟩ := bsome j; clear j; unfold Q16.l2 at hlo3133; obtain ⟨m3135, hit3137⟩ := Q17.1 hlo3133; clear hlo3133; refine At.loopJ (X := (List Q0) × Int) (Y := (List Q0)) (e0 := 6) (fun s_ => [(7, .slice A0_2 ((a0_2.take (IntKind.i64.wrap ((a1_2.length : Int) + 1)).toNat).length) c0_2), (12, .int .i64 s_.2)]) (fun s_ => row Fl.bs 9 A0_1 a0_1.length c0_1 x2312 :: row Q0.fl 35 A0_2 a0_2.length c0_2 s_.1 :: grow Q6.ow 37 A0_3 a0_3.length c0_3 x1496 :: pt b258 (.cells [.int .i64 a1_0, .slice A1_1 a1_1.length c1_1, .slice A1_2 a1_2.length c1_2, .slice A1_3 a1_3.length c1_3].toArray 26) :: pt b257 (.cells [.int .i64 a0_0, .slice A0_1 ((a0_1.take k0_1).length) c0_1, .slice A0_2 ((a0_2.take k0_2).length) c0_2, .slice A0_3 a0_3.length c0_3].toArray 26) :: Fr) (fun m_ => fun s_ => iterN (fun t_ : (List Q0) × Int => Q16.l2b a0_2 a1_2 t_.1 t_.2) m_ (s_.1, s_.2) = some o3132) m3135 (a0_2, 0) hit3137 (fun x3128 => []) (fun x3128 => row Fl.bs 9 A0_1 a0_1.length c0_1 x2312 :: row Q0.fl 35 A0_2 a0_2.length c0_2 x3128 :: grow Q6.ow 37 A0_3 a0_3.length c0_3 x1496 :: pt b258 (.cells [.int .i64 a1_0, .slice A1_1 a1_1.length c1_1, .slice A1_2 a1_2.length c1_2, .slice A1_3 a1_3.length c1_3].toArray 26) :: pt b257 (.cells [.int .i64 a0_0, .slice A0_1 ((a0_1.take k0_1).length) c0_1, .slice A0_2 ((a0_2.take k0_2).length) c0_2, .slice A0_3 a0_3.length c0_3].toArray 26) :: Fr) (fun x3128 => G3129 (.inl x3128) = some r) (fun a w e hs => ⟨e.sub ⟨rfl, rfl, trivial⟩, (by exact hs)⟩) ?_ (fun J3139 => ?_)
           ·rintro x3128 j; have j := (hl3130 _).symm.trans j
            ·refine At.ibx ?_; refine At.thn (At.seq (At.region (At.run 1 rfl (At.nil (At.thn (At.ret (At.drop (.s (.s (.s .z))) ?_))))))); refine At.drop (.s (.s (.s .z))) ?_; cases bret j; exact At.res (.inl rfl) rfl rfl ⟨rfl, rfl⟩
           ·clear hit3137 m3135; rintro m3135 ⟨x2926, x2927⟩ hit3137; obtain ⟨m3136, f_, hlt3138, hf_, j⟩ := bit hit3137; clear hit3137; have j : (Q16.l2b a0_2 a1_2 x2926 x2927).bind _ = some o3132 := j; unfold Q16.l2b at j
            ·refine At.seq (At.seq (At.region (At.run 4 rfl (At.nil (At.thn ?_))))); rcases bite j with ⟨h3140, j⟩ | ⟨h3140, j⟩
             ··refine At.condT rfl (decide_eq_true h3140) ?_
               refine At.skip (At.thn (At.seq ?_)); refine At.block ?_; refine At.region (At.run 2 rfl ?_); refine At.y (Y.build (is := [0]) (xo := [.const (.int .i64 99)]) (vs := [.int .i64 99]) (cs := [.int .i64 99, .int .i64 0, .int .i64 0]) rfl rfl rfl rfl rfl rfl) rfl rfl rfl ?_; obtain ⟨h3141, j⟩ := bnone j; obtain ⟨h3142, j⟩ := bnone j; refine At.y (Y.ixView (.s .z) rfl rfl rfl rfl rfl rfl h3141.1 h3141.2 h3142.2) rfl rfl rfl ?_; refine At.st rfl (.s .z) (q := 0) (z := (⟨99, 0, 0⟩ : Q0)) rfl rfl rfl h3142.1 h3142.2 rfl rfl (.c (.c (.c .n))) ?_; refine At.nil ?_; refine At.ibn ?_; refine At.thn (At.region (At.run 3 rfl (At.nil (At.f4 (At.f4 (At.f4 (At.f3 ?_))))))); refine At.f4 ?_; have j := bnx hf_ j; exact fun a w e hs => ⟨m3136, ((st x2926 x2927 (⟨99, 0, 0⟩ : Q0)), IntKind.i64.wrap (x2927 + 1)), hlt3138, j, e.sub ⟨rfl, rfl, trivial⟩, hs⟩
             ··refine At.condF rfl (decide_eq_false h3140) ?_
               refine At.exit ?_; refine At.the ?_; refine At.the ?_; exact fun a w e hs => J3139 x2926 (bdn j ho3134) a w (e.sub trivial) hs
         ·clear hit2321 m2319; rintro m2319 ⟨x2110, x2111⟩ hit2321; obtain ⟨m2320, f_, hlt2322, hf_, j⟩ := bit hit2321; clear hit2321; have j : (Q16.l1b a0_1 a1_1 x2110 x2111).bind _ = some o2316 := j; unfold Q16.l1b at j
          ·refine At.seq (At.seq (At.region (At.run 4 rfl (At.nil (At.thn ?_))))); rcases bite j with ⟨h3143, j⟩ | ⟨h3143, j⟩
           ··refine At.condT rfl (decide_eq_true h3143) ?_
             refine At.skip (At.thn (At.seq ?_)); refine At.block ?_; refine At.region (At.run 2 rfl ?_); obtain ⟨h3144, j⟩ := bnone j; obtain ⟨h3145, j⟩ := bnone j; refine At.y (Y.ixView .z rfl rfl rfl rfl rfl rfl h3144.1 h3144.2 h3145.2) rfl rfl rfl ?_; refine At.st rfl .z (q := 0) (z := ([33] : Bs)) rfl rfl rfl h3145.1 h3145.2 rfl rfl (.c .n) ?_; refine At.nil ?_; refine At.ibn ?_; refine At.thn (At.region (At.run 3 rfl (At.nil ?_))); have j := bnx hf_ j; exact fun a w e hs => ⟨m2320, ((st x2110 x2111 ([33] : Bs)), IntKind.i64.wrap (x2111 + 1)), hlt2322, j, e.sub ⟨rfl, rfl, rfl, trivial⟩, hs⟩
           ··refine At.condF rfl (decide_eq_false h3143) ?_
             refine At.exit ?_; refine At.the ?_; refine At.the ?_; exact fun a w e hs => J2323 x2110 (bdn j ho2318) a w (e.sub ⟨rfl, trivial⟩) hs
       ·clear hit1505 m1503; rintro m1503 ⟨x1294, x1295⟩ hit1505; obtain ⟨m1504, f_, hlt1506, hf_, j⟩ := bit hit1505; clear hit1505; have j : (Q16.l0b a0_1 a0_2 a0_3 a1_3 x1294 x1295).bind _ = some o1500 := j; unfold Q16.l0b at j
        ·refine At.seq (At.seq (At.region (At.run 2 rfl (At.y (Y.load rfl rfl (.s (.s (.s .z))) rfl rfl rfl) rfl rfl rfl (At.run 2 rfl (At.nil (At.thn ?_))))))); rcases bite j with ⟨h3146, j⟩ | ⟨h3146, j⟩
         ··refine At.condT rfl (decide_eq_true h3146) ?_
           refine At.skip (At.thn (At.seq ?_)); refine At.block ?_; refine At.seq ?_; obtain ⟨h3147, j⟩ := bnone j; refine At.openGrow (.s (.s .z)) h3147.1 h3147.2 (fun cs3148 => ?_); have hq3149 := j; refine At.ownPair (T := Ow.fl Fl.bs) (U := (Ow.spl (Fl.int .i64) 3)) (x := ((gt x1294 x1295).Name, (gt x1294 x1295).States)) (.s .z) ?_; rintro cs3150 cs3151 rfl; refine At.ownFl (F := Fl.bs) (x := (gt x1294 x1295).Name) .z ?_; rintro rfl; refine At.ownSplV (F := (Fl.int .i64)) (e := 3) (p := (gt x1294 x1295).States) .z ?_; rintro A3152 c3153 rfl; have j := hq3149; refine At.quiet (by kernel_rfl) ?_; refine At.Quiet.run 1 rfl ?_; refine At.Quiet.y (Y.load rfl rfl (.s (.s (.s (.s (.s .z))))) rfl rfl rfl) rfl rfl rfl ?_; refine At.Quiet.run 1 rfl ?_; refine At.Quiet.y (Y.ixGHole (.s .z) rfl rfl rfl rfl rfl rfl h3147.1 h3147.2) rfl rfl rfl ?_; refine At.Quiet.y (Y.faGHole (.s .z) h3147.1 h3147.2 rfl rfl rfl rfl rfl rfl) rfl rfl rfl ?_; refine At.Quiet.y (Y.ldGHole (q := 1) (.s .z) rfl rfl h3147.1 h3147.2 rfl rfl rfl) rfl rfl rfl ?_; refine At.Quiet.run 1 rfl ?_; refine At.Quiet.y (Y.load rfl rfl (.s (.s (.s (.s .z)))) rfl rfl rfl) rfl rfl rfl ?_; refine At.Quiet.run 1 rfl ?_; obtain ⟨h3154, j⟩ := bnone j; refine At.Quiet.y (Y.ixRd hr1_3 rfl rfl rfl rfl rfl rfl rfl h3154.1 h3154.2) rfl rfl rfl ?_; refine At.Quiet.y (Y.fa (RdS.some_ hr1_3 rfl h3154.1 h3154.2) rfl rfl rfl rfl rfl rfl) rfl rfl rfl ?_; obtain ⟨A3155, c3156, hc3157, hr3158, hy3159⟩ := RdS.prjSl (P := Tryz.prog) Q1.prj_States hr1_3 (Sub.refl _) rfl h3154.1 h3154.2; refine At.Quiet.y (hy3159 rfl rfl rfl rfl) rfl rfl rfl ?_; refine At.Quiet.run 2 rfl ?_; obtain ⟨h3160, j⟩ := bnone j; refine At.Quiet.y (Y.slView .z rfl rfl rfl rfl rfl h3160.1 h3160.2) rfl rfl rfl ?_; refine At.Quiet.run 1 rfl (At.Quiet.nil (At.thn (At.seq (At.seq (At.region (At.run 4 rfl ?_)))))); obtain ⟨h3161, j⟩ := bnone j; obtain ⟨h3162, j⟩ := bnone j; refine At.y (Y.ixView .z rfl rfl rfl rfl rfl rfl h3161.1 h3161.2 h3162.2) rfl rfl rfl ?_; refine At.y (Y.ld .z (q := 0) rfl rfl h3162.1 h3162.2 rfl rfl rfl) rfl rfl rfl (At.run 1 rfl (At.nil (At.thn ?_))); rcases bite j with ⟨h3163, j⟩ | ⟨h3163, j⟩
           ··refine At.condF rfl (nf (decide_eq_true h3163)) ?_
             refine At.skip (At.thn (At.seq (At.seq (At.region (At.run 1 rfl (At.nil (At.thn ?_))))))); refine At.block ?_; obtain ⟨G3969, hl3970, hr3971, j⟩ := bjoin j; obtain ⟨o3972, hlo3973, ho3974⟩ := bsome j; clear j; unfold Q16.l3 at hlo3973; obtain ⟨m3975, hit3977⟩ := Q17.1 hlo3973; clear hlo3973; refine At.loopJ (X := (List Int) × Int) (Y := (List Int)) (e0 := 2) (fun s_ => [(2, .pointer (some ⟨b257, 0, none⟩)), (3, .pointer (some ⟨b258, 0, none⟩)), (6, .slice A0_1 ((a0_1.take (IntKind.i64.wrap ((a1_1.length : Int) + 1)).toNat).length) c0_1), (7, .slice A0_2 ((a0_2.take (IntKind.i64.wrap ((a1_2.length : Int) + 1)).toNat).length) c0_2), (8, .int .i64 x1295), (9, .slice A3152 ((((gt x1294 x1295).States.1 ++ (gt x1294 x1295).States.2).take (IntKind.i64.wrap (((gt a1_3 x1295).States.length : Int) + 1)).toNat).length) c3153), (10, .int .i64 s_.2)]) (fun s_ => row (Fl.int .i64) 3 A3152 (((gt x1294 x1295).States.1 ++ (gt x1294 x1295).States.2).length) c3153 s_.1 :: ghole Q6.ow 37 A0_3 a0_3.length c0_3 x1294 x1295 [.string ⟨((gt x1294 x1295).Name).toArray⟩, .slice A3152 ((((gt x1294 x1295).States.1 ++ (gt x1294 x1295).States.2).take (gt x1294 x1295).States.1.length).length) c3153] :: row Fl.bs 9 A0_1 a0_1.length c0_1 a0_1 :: row Q0.fl 35 A0_2 a0_2.length c0_2 a0_2 :: pt b258 (.cells [.int .i64 a1_0, .slice A1_1 a1_1.length c1_1, .slice A1_2 a1_2.length c1_2, .slice A1_3 a1_3.length c1_3].toArray 26) :: pt b257 (.cells [.int .i64 a0_0, .slice A0_1 ((a0_1.take k0_1).length) c0_1, .slice A0_2 ((a0_2.take k0_2).length) c0_2, .slice A0_3 a0_3.length c0_3].toArray 26) :: Fr) (fun m_ => fun s_ => iterN (fun t_ : (List Int) × Int => Q16.l3b a1_3 x1294 x1295 t_.1 t_.2) m_ (s_.1, s_.2) = some o3972) m3975 (((gt x1294 x1295).States.1 ++ (gt x1294 x1295).States.2), 0) hit3977 (fun x3968 => [(2, .pointer (some ⟨b257, 0, none⟩)), (3, .pointer (some ⟨b258, 0, none⟩)), (6, .slice A0_1 ((a0_1.take (IntKind.i64.wrap ((a1_1.length : Int) + 1)).toNat).length) c0_1), (7, .slice A0_2 ((a0_2.take (IntKind.i64.wrap ((a1_2.length : Int) + 1)).toNat).length) c0_2), (8, .int .i64 x1295)]) (fun x3968 => row (Fl.int .i64) 3 A3152 (((gt x1294 x1295).States.1 ++ (gt x1294 x1295).States.2).length) c3153 x3968 :: ghole Q6.ow 37 A0_3 a0_3.length c0_3 x1294 x1295 [.string ⟨((gt x1294 x1295).Name).toArray⟩, .slice A3152 ((((gt x1294 x1295).States.1 ++ (gt x1294 x1295).States.2).take (gt x1294 x1295).States.1.length).length) c3153] :: row Fl.bs 9 A0_1 a0_1.length c0_1 a0_1 :: row Q0.fl 35 A0_2 a0_2.length c0_2 a0_2 :: pt b258 (.cells [.int .i64 a1_0, .slice A1_1 a1_1.length c1_1, .slice A1_2 a1_2.length c1_2, .slice A1_3 a1_3.length c1_3].toArray 26) :: pt b257 (.cells [.int .i64 a0_0, .slice A0_1 ((a0_1.take k0_1).length) c0_1, .slice A0_2 ((a0_2.take k0_2).length) c0_2, .slice A0_3 a0_3.length c0_3].toArray 26) :: Fr) (fun x3968 => G3969 (.inl x3968) = some o1500) (fun a w e hs => ⟨e.sub ⟨rfl, rfl, rfl, rfl, rfl, rfl, rfl, trivial⟩, (by exact hs)⟩) ?_ (fun J3979 => ?_)
             ·rintro x3968 j; have j := (hl3970 _).symm.trans j
              ·refine At.ibx ?_; refine At.thn (At.region (At.run 1 rfl ?_)); refine At.y (Y.load rfl rfl (.s (.s (.s (.s (.s .z))))) rfl rfl rfl) rfl rfl rfl ?_; refine At.run 1 rfl ?_; refine At.y (Y.ixGHole (.s .z) rfl rfl rfl rfl rfl rfl h3147.1 h3147.2) rfl rfl rfl ?_; refine At.y (Y.faGHole (.s .z) h3147.1 h3147.2 rfl rfl rfl rfl rfl rfl) rfl rfl rfl ?_; refine At.stGHole (q := 0) rfl (.s .z) rfl rfl rfl h3147.1 h3147.2 rfl rfl (.c .n) rfl ?_; refine At.nil ?_; refine At.ibn ?_; refine At.thn (At.region (At.run 3 rfl (At.nil ?_))); obtain ⟨h3980, j⟩ := bnone j; refine At.closeGrow (T := Q6.ow) (z := (⟨([33] : Bs), (x3968.take (gt x1294 x1295).States.1.length, x3968.drop (gt x1294 x1295).States.1.length)⟩ : Q6)) rfl (show Ent _ (Q6.ow.own (⟨([33] : Bs), (x3968.take (gt x1294 x1295).States.1.length, x3968.drop (gt x1294 x1295).States.1.length)⟩ : Q6) _) from (Ent.pair (c1 := [.string ⟨(([33] : Bs)).toArray⟩]) (c2 := [.slice A3152 ((((gt x1294 x1295).States.1 ++ (gt x1294 x1295).States.2).take (gt x1294 x1295).States.1.length).length) c3153]) (Ent.fl Fl.bs rfl) (Ent.spn (Fl.int .i64) (k := (gt x1294 x1295).States.1.length) h3980))) rfl ?_; refine At.f4 (At.f4 (At.f2 (At.f4 (At.f4 ?_)))); have j := bnx hf_ j; exact fun a w e hs => ⟨m1504, ((st x1294 x1295 (⟨([33] : Bs), (x3968.take (gt x1294 x1295).States.1.length, x3968.drop (gt x1294 x1295).States.1.length)⟩ : Q6)), IntKind.i64.wrap (x1295 + 1)), hlt1506, j, e.sub ⟨rfl, rfl, rfl, rfl, rfl, trivial⟩, hs⟩
             ·clear hit3977 m3975; rintro m3975 ⟨x3766, x3767⟩ hit3977; obtain ⟨m3976, f_, hlt3978, hf_, j⟩ := bit hit3977; clear hit3977; have j : (Q16.l3b a1_3 x1294 x1295 x3766 x3767).bind _ = some o3972 := j; unfold Q16.l3b at j
              ·refine At.seq (At.seq (At.region (At.run 4 rfl (At.nil (At.thn ?_))))); rcases bite j with ⟨h3981, j⟩ | ⟨h3981, j⟩
               ··refine At.condT rfl (decide_eq_true h3981) ?_
                 refine At.skip (At.thn (At.seq ?_)); refine At.block ?_; refine At.region (At.run 2 rfl ?_); obtain ⟨h3982, j⟩ := bnone j; obtain ⟨h3983, j⟩ := bnone j; refine At.y (Y.ixView .z rfl rfl rfl rfl rfl rfl h3982.1 h3982.2 h3983.2) rfl rfl rfl ?_; refine At.st rfl .z (q := 0) (z := 99) rfl rfl rfl h3983.1 h3983.2 rfl rfl (.c .n) ?_; refine At.nil ?_; refine At.ibn ?_; refine At.thn (At.region (At.run 3 rfl (At.nil ?_))); have j := bnx hf_ j; exact fun a w e hs => ⟨m3976, ((st x3766 x3767 99), IntKind.i64.wrap (x3767 + 1)), hlt3978, j, e.sub ⟨rfl, rfl, rfl, rfl, rfl, rfl, rfl, trivial⟩, hs⟩
               ··refine At.condF rfl (decide_eq_false h3981) ?_
                 refine At.exit ?_; refine At.the ?_; refine At.the ?_; exact fun a w e hs => J3979 x3766 (bdn j ho3974) a w (e.sub ⟨rfl, rfl, rfl, rfl, rfl, trivial⟩) hs
           ··refine At.condT rfl (nt (decide_eq_false h3163)) ?_
             refine At.seq (At.region (At.run 1 rfl (At.nil (At.thn (At.ret (At.thr ?_)))))); refine At.ibr ?_; refine At.thr ?_; have j := bupL hr1499 ho1502 j; refine At.thr ?_; refine At.ibr ?_; refine At.thr (At.f1 ?_); refine At.closeGrow (T := Q6.ow) (z := (⟨((gt x1294 x1295).Name), (((gt x1294 x1295).States.1 ++ (gt x1294 x1295).States.2).take (gt x1294 x1295).States.1.length, ((gt x1294 x1295).States.1 ++ (gt x1294 x1295).States.2).drop (gt x1294 x1295).States.1.length)⟩ : Q6)) rfl (show Ent _ (Q6.ow.own (⟨((gt x1294 x1295).Name), (((gt x1294 x1295).States.1 ++ (gt x1294 x1295).States.2).take (gt x1294 x1295).States.1.length, ((gt x1294 x1295).States.1 ++ (gt x1294 x1295).States.2).drop (gt x1294 x1295).States.1.length)⟩ : Q6) _) from (Ent.pair (c1 := [.string ⟨((gt x1294 x1295).Name).toArray⟩]) (c2 := [.slice A3152 ((((gt x1294 x1295).States.1 ++ (gt x1294 x1295).States.2).take (gt x1294 x1295).States.1.length).length) c3153]) (Ent.fl Fl.bs rfl) (Ent.spn (Fl.int .i64) (k := (gt x1294 x1295).States.1.length) rfl))) rfl ?_; refine At.drop (.s (.s (.s .z))) (At.drop (.s (.s (.s .z))) (At.f2 (At.f2 ?_))); cases bret j; exact At.res (.inl rfl) rfl rfl ⟨rfl, rfl⟩
         ··refine At.condF rfl (decide_eq_false h3146) ?_
           refine At.exit ?_; refine At.the ?_; refine At.the ?_; exact fun a w e hs => J1507 x1294 (bdn j ho1502) a w (e.sub ⟨rfl, rfl, trivial⟩) hs
   ··rcases bite j with ⟨h3984, j⟩ | ⟨h3984, j⟩
     ··refine At.know (t := 41) rfl h3984 ?_
       refine At.run 9 rfl ?_; exact At.of (J690 true j) ⟨rfl, rfl, rfl, rfl, rfl, trivial⟩
     ··refine At.know (t := 41) rfl (bn h3984) ?_
       refine At.run 2 rfl (At.y (Y.load rfl rfl (.s (.s (.s .z))) rfl rfl rfl) rfl rfl rfl (At.run 1 rfl ?_)); obtain ⟨h3985, j⟩ := bnone j; obtain ⟨h3986, j⟩ := bnone j; refine At.y (Y.ixView (.s .z) rfl rfl rfl rfl rfl rfl h3985.1 h3985.2 h3986.2) rfl rfl rfl ?_; refine At.y (Y.faOwn (.s .z) h3986.1 h3986.2 rfl rfl rfl rfl rfl rfl) rfl rfl rfl ?_; refine At.y (Y.ld (.s .z) (q := 0) rfl rfl h3986.1 h3986.2 rfl rfl rfl) rfl rfl rfl (At.run 2 rfl ?_); exact At.of (J690 (!(decide ((gt a0_2 (a1_2.length : Int)).From = (-7)))) j) ⟨rfl, rfl, rfl, rfl, rfl, trivial⟩
 ··rcases bite j with ⟨h3987, j⟩ | ⟨h3987, j⟩
   ··refine At.know (t := 32) rfl (nf h3987) ?_
     refine At.run 2 rfl (At.y (Y.load rfl rfl (.s (.s (.s .z))) rfl rfl rfl) rfl rfl rfl (At.run 1 rfl ?_)); obtain ⟨h3988, j⟩ := bnone j; obtain ⟨h3989, j⟩ := bnone j; refine At.y (Y.ixView .z rfl rfl rfl rfl rfl rfl h3988.1 h3988.2 h3989.2) rfl rfl rfl ?_; refine At.y (Y.ld .z (q := 0) rfl rfl h3989.1 h3989.2 rfl rfl rfl) rfl rfl rfl (At.run 2 rfl ?_); exact At.of (J485 (!(bseq (gt a0_1 (a1_1.length : Int)) ([33] : Bs))) j) ⟨rfl, rfl, rfl, rfl, rfl, trivial⟩
   ··refine At.know (t := 32) rfl (nt (bn h3987)) ?_
     refine At.run 8 rfl ?_; exact At.of (J485 true j) ⟨rfl, rfl, rfl, rfl, rfl, trivial⟩

noncomputable def Q42.l0b  (x859 : Int) (x860 : Bs) : Option ((Int × Bs) ⊕ ((Bs) ⊕ (Bs))) :=
 if 9 < x859 then
 if ((([(IntKind.u8.wrap (IntKind.i64.wrap (48 + (Int.tmod (IntKind.i64.wrap (Int.tdiv x859 10)) 10))))] : List Int).map byteOf).length : Int) + (x860.length : Int) ≤ 9223372036854775807 then
 nx (IntKind.i64.wrap (Int.tdiv x859 10), ((([(IntKind.u8.wrap (IntKind.i64.wrap (48 + (Int.tmod (IntKind.i64.wrap (Int.tdiv x859 10)) 10))))] : List Int).map byteOf) ++ x860))
 else none
 else
 dn (.inl x860)
noncomputable def Q42.l0  (x859 : Int) (x860 : Bs) : Option ((Bs) ⊕ (Bs)) := iter (fun t_ : Int × Bs => Q42.l0b  t_.1 t_.2) (x859, x860)
noncomputable def Q42.f (a0 : Int) : Option Bs :=
 jn (Q42.l0  a0 (([(IntKind.u8.wrap (IntKind.i64.wrap (48 + (Int.tmod a0 10))))] : List Int).map byteOf)) (fun (x1061 : Bs) =>
 some x1061)
theorem Q42.callee : Callee Tryz.prog 68 := ⟨_, Tryz.func68, by kernel_rfl, by kernel_rfl⟩
theorem Q42.spec (R : Res) (Fr : List HProp)  (a0 : Int)  {r : Bs} (j : Q42.f a0 = some r) :
 Spec Tryz.prog 68 [.int .i64 a0] R (Fr) (fun v l' => v = .string ⟨(r).toArray⟩ ∧ Fr = l') := by
 refine Spec.of Tryz.func68 rfl rfl ?_; unfold Q42.f at j; have j := brun j; refine At.seq (At.region (At.run 1 rfl (At.nil (At.thn (At.seq (At.region (At.run 1 rfl ?_))))))); refine At.y (Y.rem rfl rfl (by decide)) rfl rfl rfl ?_; refine At.run 2 rfl ?_; refine At.lit rfl (xo := [.tmp 7]) (ys := ([(IntKind.u8.wrap (IntKind.i64.wrap (48 + (Int.tmod a0 10))))] : List Int)) (Fl.int .u8) rfl rfl rfl rfl rfl rfl rfl rfl rfl rfl rfl (fun A254 c255 => ?_); refine At.y (Y.bytesStr .z rfl rfl rfl rfl rfl rfl rfl) rfl rfl rfl ?_; refine At.run 1 rfl (At.nil (At.thn (At.seq ?_))); refine At.block ?_; obtain ⟨G1062, hl1063, hr1064, j⟩ := bjoin j; obtain ⟨o1065, hlo1066, ho1067⟩ := bsome j; clear j; unfold Q42.l0 at hlo1066; obtain ⟨m1068, hit1070⟩ := Q17.1 hlo1066; clear hlo1066; refine At.loopJ (X := Int × Bs) (Y := Bs) (e0 := 0) (fun s_ => [(0, .int .i64 s_.1), (3, .string ⟨(s_.2).toArray⟩)]) (fun s_ => row (Fl.int .u8) 5 A254 (([(IntKind.u8.wrap (IntKind.i64.wrap (48 + (Int.tmod a0 10))))] : List Int).length) c255 ([(IntKind.u8.wrap (IntKind.i64.wrap (48 + (Int.tmod a0 10))))] : List Int) :: Fr) (fun m_ => fun s_ => iterN (fun t_ : Int × Bs => Q42.l0b  t_.1 t_.2) m_ (s_.1, s_.2) = some o1065) m1068 (a0, (([(IntKind.u8.wrap (IntKind.i64.wrap (48 + (Int.tmod a0 10))))] : List Int).map byteOf)) hit1070 (fun x1061 => [(3, .string ⟨(x1061).toArray⟩)]) (fun x1061 => row (Fl.int .u8) 5 A254 (([(IntKind.u8.wrap (IntKind.i64.wrap (48 + (Int.tmod a0 10))))] : List Int).length) c255 ([(IntKind.u8.wrap (IntKind.i64.wrap (48 + (Int.tmod a0 10))))] : List Int) :: Fr) (fun x1061 => G1062 (.inl x1061) = some r) (fun a w e hs => ⟨e.sub ⟨rfl, rfl, trivial⟩, (by exact hs)⟩) ?_ (fun J1072 => ?_)
 ·rintro x1061 j; have j := (hl1063 _).symm.trans j
  ·refine At.ibx ?_; refine At.thn (At.seq (At.region (At.run 2 rfl (At.nil (At.thn (At.ret (At.drop .z ?_))))))); cases bret j; exact At.res (.inl rfl) rfl rfl ⟨rfl, rfl⟩
 ·clear hit1070 m1068; rintro m1068 ⟨x859, x860⟩ hit1070; obtain ⟨m1069, f_, hlt1071, hf_, j⟩ := bit hit1070; clear hit1070; have j : (Q42.l0b  x859 x860).bind _ = some o1065 := j; unfold Q42.l0b at j
  ·refine At.seq (At.seq (At.region (At.run 2 rfl (At.nil (At.thn ?_))))); rcases bite j with ⟨h1073, j⟩ | ⟨h1073, j⟩
   ··refine At.condT rfl (decide_eq_true h1073) ?_
     refine At.skip (At.thn ?_); refine At.block ?_; refine At.seq (At.region (At.run 1 rfl ?_)); refine At.y (Y.quo rfl rfl (by decide)) rfl rfl rfl ?_; refine At.run 1 rfl (At.nil (At.thn (At.region (At.run 1 rfl ?_)))); refine At.y (Y.rem rfl rfl (by decide)) rfl rfl rfl ?_; refine At.run 2 rfl ?_; refine At.lit rfl (xo := [.tmp 17]) (ys := ([(IntKind.u8.wrap (IntKind.i64.wrap (48 + (Int.tmod (IntKind.i64.wrap (Int.tdiv x859 10)) 10))))] : List Int)) (Fl.int .u8) rfl rfl rfl rfl rfl rfl rfl rfl rfl rfl rfl (fun A1074 c1075 => ?_); refine At.y (Y.bytesStr .z rfl rfl rfl rfl rfl rfl rfl) rfl rfl rfl ?_; refine At.run 1 rfl ?_; obtain ⟨h1077, j⟩ := bnone j; refine At.y (Y.addStr rfl rfl h1077) rfl rfl rfl ?_; refine At.run 1 rfl (At.nil ?_); refine At.ibn ?_; refine At.drop .z ?_; have j := bnx hf_ j; exact fun a w e hs => ⟨m1069, (IntKind.i64.wrap (Int.tdiv x859 10), ((([(IntKind.u8.wrap (IntKind.i64.wrap (48 + (Int.tmod (IntKind.i64.wrap (Int.tdiv x859 10)) 10))))] : List Int).map byteOf) ++ x860)), hlt1071, j, e.sub ⟨rfl, rfl, trivial⟩, hs⟩
   ··refine At.condF rfl (decide_eq_false h1073) ?_
     refine At.exit ?_; refine At.the ?_; refine At.the ?_; exact fun a w e hs => J1072 x860 (bdn j ho1067) a w (e.sub ⟨rfl, trivial⟩) hs

noncomputable def Q20.l2b (a0_3 : List Q1) (x1680 : Int) (x2499 : Bs) (x2500 : Int) : Option ((Bs × Int) ⊕ ((Bs) ⊕ ((Bs × Int) ⊕ ((Bs) ⊕ (Bs))))) :=
 if x2500 < ((gt a0_3 x1680).States.length : Int) then
 if (x2499.length : Int) + (([32] : Bs).length : Int) ≤ 9223372036854775807 then
 if (0 : Int) ≤ x2500 ∧ x2500 < ((gt a0_3 x1680).States.length : Int) then
 (Q42.f (gt ((gt a0_3 x1680).States) x2500)).bind fun t2727 =>
 if ((x2499 ++ ([32] : Bs)).length : Int) + (t2727.length : Int) ≤ 9223372036854775807 then
 nx (((x2499 ++ ([32] : Bs)) ++ t2727), IntKind.i64.wrap (x2500 + 1))
 else none
 else none
 else none
 else
 dn (.inl x2499)
noncomputable def Q20.l2 (a0_3 : List Q1) (x1680 : Int) (x2499 : Bs) (x2500 : Int) : Option ((Bs) ⊕ ((Bs × Int) ⊕ ((Bs) ⊕ (Bs)))) := iter (fun t_ : Bs × Int => Q20.l2b a0_3 x1680 t_.1 t_.2) (x2499, x2500)
noncomputable def Q20.l1b (a0_3 : List Q1) (x1679 : Bs) (x1680 : Int) : Option ((Bs × Int) ⊕ ((Bs) ⊕ (Bs))) :=
 if x1680 < (a0_3.length : Int) then
 if (x1679.length : Int) + (([109, 97, 114, 107, 32] : Bs).length : Int) ≤ 9223372036854775807 then
 if (0 : Int) ≤ x1680 ∧ x1680 < (a0_3.length : Int) then
 if ((x1679 ++ ([109, 97, 114, 107, 32] : Bs)).length : Int) + (((gt a0_3 x1680).Name).length : Int) ≤ 9223372036854775807 then
 jn (Q20.l2 a0_3 x1680 ((x1679 ++ ([109, 97, 114, 107, 32] : Bs)) ++ (gt a0_3 x1680).Name) 0) (fun (x2701 : Bs) =>
 if (x2701.length : Int) + (([10] : Bs).length : Int) ≤ 9223372036854775807 then
 nx ((x2701 ++ ([10] : Bs)), IntKind.i64.wrap (x1680 + 1))
 else none)
 else none
 else none
 else none
 else
 dn (.inl x1679)
noncomputable def Q20.l1 (a0_3 : List Q1) (x1679 : Bs) (x1680 : Int) : Option ((Bs) ⊕ (Bs)) := iter (fun t_ : Bs × Int => Q20.l1b a0_3 t_.1 t_.2) (x1679, x1680)
noncomputable def Q20.l0b (a0_1 : List Bs) (a0_2 : List Q0) (x863 : Bs) (x864 : Int) : Option ((Bs × Int) ⊕ ((Bs) ⊕ (Bs))) :=
 if x864 < (a0_2.length : Int) then
 if (0 : Int) ≤ x864 ∧ x864 < (a0_2.length : Int) then
 if (x863.length : Int) + (([101, 100, 103, 101, 32] : Bs).length : Int) ≤ 9223372036854775807 then
 (Q42.f ((gt a0_2 x864).From)).bind fun t2734 =>
 if ((x863 ++ ([101, 100, 103, 101, 32] : Bs)).length : Int) + (t2734.length : Int) ≤ 9223372036854775807 then
 if (((x863 ++ ([101, 100, 103, 101, 32] : Bs)) ++ t2734).length : Int) + (([32] : Bs).length : Int) ≤ 9223372036854775807 then
 if (0 : Int) ≤ (gt a0_2 x864).Action ∧ (gt a0_2 x864).Action < (a0_1.length : Int) then
 if ((((x863 ++ ([101, 100, 103, 101, 32] : Bs)) ++ t2734) ++ ([32] : Bs)).length : Int) + ((gt a0_1 ((gt a0_2 x864).Action)).length : Int) ≤ 9223372036854775807 then
 if (((((x863 ++ ([101, 100, 103, 101, 32] : Bs)) ++ t2734) ++ ([32] : Bs)) ++ gt a0_1 ((gt a0_2 x864).Action)).length : Int) + (([32] : Bs).length : Int) ≤ 9223372036854775807 then
 (Q42.f ((gt a0_2 x864).To)).bind fun t2741 =>
 if ((((((x863 ++ ([101, 100, 103, 101, 32] : Bs)) ++ t2734) ++ ([32] : Bs)) ++ gt a0_1 ((gt a0_2 x864).Action)) ++ ([32] : Bs)).length : Int) + (t2741.length : Int) ≤ 9223372036854775807 then
 if (((((((x863 ++ ([101, 100, 103, 101, 32] : Bs)) ++ t2734) ++ ([32] : Bs)) ++ gt a0_1 ((gt a0_2 x864).Action)) ++ ([32] : Bs)) ++ t2741).length : Int) + (([10] : Bs).length : Int) ≤ 9223372036854775807 then
 nx ((((((((x863 ++ ([101, 100, 103, 101, 32] : Bs)) ++ t2734) ++ ([32] : Bs)) ++ gt a0_1 ((gt a0_2 x864).Action)) ++ ([32] : Bs)) ++ t2741) ++ ([10] : Bs)), IntKind.i64.wrap (x864 + 1))
 else none
 else none
 else none
 else none
 else none
 else none
 else none
 else none
 else none
 else
 dn (.inl x863)
noncomputable def Q20.l0 (a0_1 : List Bs) (a0_2 : List Q0) (x863 : Bs) (x864 : Int) : Option ((Bs) ⊕ (Bs)) := iter (fun t_ : Bs × Int => Q20.l0b a0_1 a0_2 t_.1 t_.2) (x863, x864)
noncomputable def Q20.f (a0_0 : Int) (a0_1 : List Bs) (a0_2 : List Q0) (a0_3 : List Q1) : Option Bs :=
 (Q39.f a0_0 a0_1 a0_2 a0_3).bind fun t254 =>
 if t254 = true then
 (Q42.f a0_0).bind fun t257 =>
 if (([115, 116, 97, 116, 101, 115, 32] : Bs).length : Int) + (t257.length : Int) ≤ 9223372036854775807 then
 if ((([115, 116, 97, 116, 101, 115, 32] : Bs) ++ t257).length : Int) + (([10] : Bs).length : Int) ≤ 9223372036854775807 then
 jn (Q20.l0 a0_1 a0_2 ((([115, 116, 97, 116, 101, 115, 32] : Bs) ++ t257) ++ ([10] : Bs)) 0) (fun (x1065 : Bs) =>
 jn (Q20.l1 a0_3 x1065 0) (fun (x1881 : Bs) =>
 some x1881))
 else none
 else none
 else
 some ([] : Bs)
theorem Q20.callee : Callee Tryz.prog 28 := ⟨_, Tryz.func28, by kernel_rfl, by kernel_rfl⟩
theorem Q20.spec (R : Res) (Fr : List HProp) (A0_1 : Option Addr) (n0_1 : Nat) (c0_1 : Nat) (A0_2 : Option Addr) (n0_2 : Nat) (c0_2 : Nat) (A0_3 : Option Addr) (n0_3 : Nat) (c0_3 : Nat) (a0_0 : Int) (a0_1 : List Bs) (a0_2 : List Q0) (a0_3 : List Q1) (hr0_1 : RdS Fl.bs.rep R.heap A0_1 a0_1) (hn0_1 : a0_1.length = n0_1) (hc0_1 : n0_1 ≤ c0_1) (hr0_2 : RdS Q0.fl.rep R.heap A0_2 a0_2) (hn0_2 : a0_2.length = n0_2) (hc0_2 : n0_2 ≤ c0_2) (hr0_3 : RdS Q1.rep R.heap A0_3 a0_3) (hn0_3 : a0_3.length = n0_3) (hc0_3 : n0_3 ≤ c0_3) {r : Bs} (j : Q20.f a0_0 a0_1 a0_2 a0_3 = some r) :
 Spec Tryz.prog 28 [.agg #[.int .i64 a0_0, .slice A0_1 n0_1 c0_1, .slice A0_2 n0_2 c0_2, .slice A0_3 n0_3 c0_3]] R (Fr) (fun v l' => v = .string ⟨(r).toArray⟩ ∧ Fr = l') := by
 subst hn0_1; subst hn0_2; subst hn0_3; refine Spec.of Tryz.func28 rfl rfl ?_; unfold Q20.f at j; have j := brun j; refine At.seq (At.region ?_); refine At.box rfl rfl (cs := [.int .i64 a0_0, .slice A0_1 a0_1.length c0_1, .slice A0_2 a0_2.length c0_2, .slice A0_3 a0_3.length c0_3]) rfl rfl (fun b253 => ?_); refine At.run 1 rfl (At.nil (At.thn (At.seq (At.region (At.y (Y.load rfl rfl .z rfl rfl rfl) rfl rfl rfl ?_))))); obtain ⟨t254, hc255, j⟩ := bbind j; refine At.call rfl Q39.callee rfl rfl rfl (Q39.spec _ _ A0_1 a0_1.length c0_1 A0_2 a0_2.length c0_2 A0_3 a0_3.length c0_3 a0_0 a0_1 a0_2 a0_3 hr0_1 rfl hc0_1 hr0_2 rfl hc0_2 hr0_3 rfl hc0_3 hc255) ?_; rintro _ _ ⟨rfl, rfl⟩; refine At.run 1 rfl (At.nil (At.thn (At.seq (At.seq (At.region (At.run 2 rfl (At.nil ?_))))))); refine At.thn ?_; rcases bite j with ⟨h256, j⟩ | ⟨h256, j⟩
 ··refine At.condF rfl (nf h256) ?_
   refine At.skip (At.thn (At.seq (At.region (At.run 1 rfl (At.y (Y.load rfl rfl .z rfl rfl rfl) rfl rfl rfl ?_))))); obtain ⟨t257, hc258, j⟩ := bbind j; refine At.call rfl Q42.callee rfl rfl rfl (Q42.spec _ _  a0_0  hc258) ?_; rintro _ _ ⟨rfl, rfl⟩; obtain ⟨h259, j⟩ := bnone j; refine At.y (Y.addStr rfl rfl h259) rfl rfl rfl ?_; obtain ⟨h260, j⟩ := bnone j; refine At.y (Y.addStr rfl rfl h260) rfl rfl rfl ?_; refine At.run 1 rfl (At.nil (At.thn (At.seq (At.seq (At.region (At.run 1 rfl (At.nil ?_))))))); refine At.thn ?_; refine At.block ?_; obtain ⟨G1066, hl1067, hr1068, j⟩ := bjoin j; obtain ⟨o1069, hlo1070, ho1071⟩ := bsome j; clear j; unfold Q20.l0 at hlo1070; obtain ⟨m1072, hit1074⟩ := Q17.1 hlo1070; clear hlo1070; refine At.loopJ (X := Bs × Int) (Y := Bs) (e0 := 0) (fun s_ => [(1, .pointer (some ⟨b253, 0, none⟩)), (4, .string ⟨(s_.1).toArray⟩), (5, .int .i64 s_.2)]) (fun s_ => pt b253 (.cells [.int .i64 a0_0, .slice A0_1 a0_1.length c0_1, .slice A0_2 a0_2.length c0_2, .slice A0_3 a0_3.length c0_3].toArray 26) :: Fr) (fun m_ => fun s_ => iterN (fun t_ : Bs × Int => Q20.l0b a0_1 a0_2 t_.1 t_.2) m_ (s_.1, s_.2) = some o1069) m1072 (((([115, 116, 97, 116, 101, 115, 32] : Bs) ++ t257) ++ ([10] : Bs)), 0) hit1074 (fun x1065 => [(1, .pointer (some ⟨b253, 0, none⟩)), (4, .string ⟨(x1065).toArray⟩)]) (fun x1065 => pt b253 (.cells [.int .i64 a0_0, .slice A0_1 a0_1.length c0_1, .slice A0_2 a0_2.length c0_2, .slice A0_3 a0_3.length c0_3].toArray 26) :: Fr) (fun x1065 => G1066 (.inl x1065) = some r) (fun a w e hs => ⟨e.sub ⟨rfl, rfl, rfl, trivial⟩, (by exact hs)⟩) ?_ (fun J1076 => ?_)
   ·rintro x1065 j; have j := (hl1067 _).symm.trans j
    ·refine At.ibx ?_; refine At.thn (At.seq (At.seq (At.region (At.run 1 rfl (At.nil (At.thn ?_)))))); refine At.block ?_; obtain ⟨G1882, hl1883, hr1884, j⟩ := bjoin j; obtain ⟨o1885, hlo1886, ho1887⟩ := bsome j; clear j; unfold Q20.l1 at hlo1886; obtain ⟨m1888, hit1890⟩ := Q17.1 hlo1886; clear hlo1886; refine At.loopJ (X := Bs × Int) (Y := Bs) (e0 := 2) (fun s_ => [(1, .pointer (some ⟨b253, 0, none⟩)), (4, .string ⟨(s_.1).toArray⟩), (7, .int .i64 s_.2)]) (fun s_ => pt b253 (.cells [.int .i64 a0_0, .slice A0_1 a0_1.length c0_1, .slice A0_2 a0_2.length c0_2, .slice A0_3 a0_3.length c0_3].toArray 26) :: Fr) (fun m_ => fun s_ => iterN (fun t_ : Bs × Int => Q20.l1b a0_3 t_.1 t_.2) m_ (s_.1, s_.2) = some o1885) m1888 (x1065, 0) hit1890 (fun x1881 => [(4, .string ⟨(x1881).toArray⟩)]) (fun x1881 => pt b253 (.cells [.int .i64 a0_0, .slice A0_1 a0_1.length c0_1, .slice A0_2 a0_2.length c0_2, .slice A0_3 a0_3.length c0_3].toArray 26) :: Fr) (fun x1881 => G1882 (.inl x1881) = some r) (fun a w e hs => ⟨e.sub ⟨rfl, rfl, rfl, trivial⟩, (by exact hs)⟩) ?_ (fun J1892 => ?_)
     ·rintro x1881 j; have j := (hl1883 _).symm.trans j
      ·refine At.ibx ?_; refine At.thn (At.seq (At.region (At.run 2 rfl (At.nil (At.thn (At.ret (At.drop .z ?_))))))); cases bret j; exact At.res (.inl rfl) rfl rfl ⟨rfl, rfl⟩
     ·clear hit1890 m1888; rintro m1888 ⟨x1679, x1680⟩ hit1890; obtain ⟨m1889, f_, hlt1891, hf_, j⟩ := bit hit1890; clear hit1890; have j : (Q20.l1b a0_3 x1679 x1680).bind _ = some o1885 := j; unfold Q20.l1b at j
      ·refine At.seq (At.seq (At.region (At.run 2 rfl (At.y (Y.load rfl rfl .z rfl rfl rfl) rfl rfl rfl (At.run 2 rfl (At.nil (At.thn ?_))))))); rcases bite j with ⟨h1893, j⟩ | ⟨h1893, j⟩
       ··refine At.condT rfl (decide_eq_true h1893) ?_
         refine At.skip (At.thn (At.seq ?_)); refine At.block ?_; refine At.seq (At.region (At.run 1 rfl ?_)); obtain ⟨h1894, j⟩ := bnone j; refine At.y (Y.addStr rfl rfl h1894) rfl rfl rfl ?_; refine At.run 1 rfl (At.y (Y.load rfl rfl .z rfl rfl rfl) rfl rfl rfl (At.run 1 rfl ?_)); obtain ⟨h1895, j⟩ := bnone j; refine At.y (Y.ixRd hr0_3 rfl rfl rfl rfl rfl rfl rfl h1895.1 h1895.2) rfl rfl rfl ?_; refine At.y (Y.fa (RdS.some_ hr0_3 rfl h1895.1 h1895.2) rfl rfl rfl rfl rfl rfl) rfl rfl rfl ?_; refine At.y (Y.ldPrj Q1.prj_Name hr0_3 rfl rfl rfl h1895.1 h1895.2 rfl rfl) rfl rfl rfl ?_; obtain ⟨h1896, j⟩ := bnone j; refine At.y (Y.addStr rfl rfl h1896) rfl rfl rfl ?_; refine At.run 1 rfl (At.nil (At.thn (At.seq (At.seq (At.region (At.run 1 rfl (At.nil ?_))))))); refine At.thn ?_; refine At.block ?_; obtain ⟨G2702, hl2703, hr2704, j⟩ := bjoin j; obtain ⟨o2705, hlo2706, ho2707⟩ := bsome j; clear j; unfold Q20.l2 at hlo2706; obtain ⟨m2708, hit2710⟩ := Q17.1 hlo2706; clear hlo2706; refine At.loopJ (X := Bs × Int) (Y := Bs) (e0 := 4) (fun s_ => [(1, .pointer (some ⟨b253, 0, none⟩)), (4, .string ⟨(s_.1).toArray⟩), (7, .int .i64 x1680), (8, .int .i64 s_.2)]) (fun s_ => pt b253 (.cells [.int .i64 a0_0, .slice A0_1 a0_1.length c0_1, .slice A0_2 a0_2.length c0_2, .slice A0_3 a0_3.length c0_3].toArray 26) :: Fr) (fun m_ => fun s_ => iterN (fun t_ : Bs × Int => Q20.l2b a0_3 x1680 t_.1 t_.2) m_ (s_.1, s_.2) = some o2705) m2708 (((x1679 ++ ([109, 97, 114, 107, 32] : Bs)) ++ (gt a0_3 x1680).Name), 0) hit2710 (fun x2701 => [(1, .pointer (some ⟨b253, 0, none⟩)), (4, .string ⟨(x2701).toArray⟩), (7, .int .i64 x1680)]) (fun x2701 => pt b253 (.cells [.int .i64 a0_0, .slice A0_1 a0_1.length c0_1, .slice A0_2 a0_2.length c0_2, .slice A0_3 a0_3.length c0_3].toArray 26) :: Fr) (fun x2701 => G2702 (.inl x2701) = some o1885) (fun a w e hs => ⟨e.sub ⟨rfl, rfl, rfl, rfl, trivial⟩, (by exact hs)⟩) ?_ (fun J2712 => ?_)
         ·rintro x2701 j; have j := (hl2703 _).symm.trans j
          ·refine At.ibx ?_; refine At.thn (At.region (At.run 1 rfl ?_)); obtain ⟨h2713, j⟩ := bnone j; refine At.y (Y.addStr rfl rfl h2713) rfl rfl rfl ?_; refine At.run 1 rfl (At.nil ?_); refine At.ibn ?_; refine At.thn (At.region (At.run 3 rfl (At.nil ?_))); have j := bnx hf_ j; exact fun a w e hs => ⟨m1889, ((x2701 ++ ([10] : Bs)), IntKind.i64.wrap (x1680 + 1)), hlt1891, j, e.sub ⟨rfl, rfl, rfl, trivial⟩, hs⟩
         ·clear hit2710 m2708; rintro m2708 ⟨x2499, x2500⟩ hit2710; obtain ⟨m2709, f_, hlt2711, hf_, j⟩ := bit hit2710; clear hit2710; have j : (Q20.l2b a0_3 x1680 x2499 x2500).bind _ = some o2705 := j; unfold Q20.l2b at j
          ·refine At.seq (At.seq (At.region (At.run 2 rfl (At.y (Y.load rfl rfl .z rfl rfl rfl) rfl rfl rfl (At.run 1 rfl (At.y (Y.ixRd hr0_3 rfl rfl rfl rfl rfl rfl rfl h1895.1 h1895.2) rfl rfl rfl ?_)))))); refine At.y (Y.fa (RdS.some_ hr0_3 rfl h1895.1 h1895.2) rfl rfl rfl rfl rfl rfl) rfl rfl rfl ?_; obtain ⟨A2714, c2715, hc2716, hr2717, hy2718⟩ := RdS.prjSl (P := Tryz.prog) Q1.prj_States hr0_3 (Sub.refl _) rfl h1895.1 h1895.2; refine At.y (hy2718 rfl rfl rfl rfl) rfl rfl rfl ?_; refine At.run 2 rfl (At.nil (At.thn ?_)); rcases bite j with ⟨h2719, j⟩ | ⟨h2719, j⟩
           ··refine At.condT rfl (decide_eq_true h2719) ?_
             refine At.skip (At.thn (At.seq ?_)); refine At.block ?_; refine At.region (At.run 1 rfl ?_); obtain ⟨h2720, j⟩ := bnone j; refine At.y (Y.addStr rfl rfl h2720) rfl rfl rfl ?_; refine At.run 1 rfl (At.y (Y.load rfl rfl .z rfl rfl rfl) rfl rfl rfl (At.run 1 rfl (At.y (Y.ixRd hr0_3 rfl rfl rfl rfl rfl rfl rfl h1895.1 h1895.2) rfl rfl rfl ?_))); refine At.y (Y.fa (RdS.some_ hr0_3 rfl h1895.1 h1895.2) rfl rfl rfl rfl rfl rfl) rfl rfl rfl ?_; obtain ⟨A2721, c2722, hc2723, hr2724, hy2725⟩ := RdS.prjSl (P := Tryz.prog) Q1.prj_States hr0_3 (Sub.refl _) rfl h1895.1 h1895.2; refine At.y (hy2725 rfl rfl rfl rfl) rfl rfl rfl ?_; refine At.run 1 rfl ?_; obtain ⟨h2726, j⟩ := bnone j; refine At.y (Y.ixRd hr2724 rfl rfl rfl rfl rfl rfl rfl h2726.1 h2726.2) rfl rfl rfl (At.y (Y.ldFl hr2724 rfl (q := 0) rfl rfl h2726.1 h2726.2 rfl rfl rfl) rfl rfl rfl ?_); obtain ⟨t2727, hc2728, j⟩ := bbind j; refine At.call rfl Q42.callee rfl rfl rfl (Q42.spec _ _  (gt ((gt a0_3 x1680).States) x2500)  hc2728) ?_; rintro _ _ ⟨rfl, rfl⟩; obtain ⟨h2729, j⟩ := bnone j; refine At.y (Y.addStr rfl rfl h2729) rfl rfl rfl ?_; refine At.run 1 rfl (At.nil ?_); refine At.ibn ?_; refine At.thn (At.region (At.run 3 rfl (At.nil ?_))); have j := bnx hf_ j; exact fun a w e hs => ⟨m2709, (((x2499 ++ ([32] : Bs)) ++ t2727), IntKind.i64.wrap (x2500 + 1)), hlt2711, j, e.sub ⟨rfl, rfl, rfl, rfl, trivial⟩, hs⟩
           ··refine At.condF rfl (decide_eq_false h2719) ?_
             refine At.exit ?_; refine At.the ?_; refine At.the ?_; exact fun a w e hs => J2712 x2499 (bdn j ho2707) a w (e.sub ⟨rfl, rfl, rfl, trivial⟩) hs
       ··refine At.condF rfl (decide_eq_false h1893) ?_
         refine At.exit ?_; refine At.the ?_; refine At.the ?_; exact fun a w e hs => J1892 x1679 (bdn j ho1887) a w (e.sub ⟨rfl, trivial⟩) hs
   ·clear hit1074 m1072; rintro m1072 ⟨x863, x864⟩ hit1074; obtain ⟨m1073, f_, hlt1075, hf_, j⟩ := bit hit1074; clear hit1074; have j : (Q20.l0b a0_1 a0_2 x863 x864).bind _ = some o1069 := j; unfold Q20.l0b at j
    ·refine At.seq (At.seq (At.region (At.run 2 rfl (At.y (Y.load rfl rfl .z rfl rfl rfl) rfl rfl rfl (At.run 2 rfl (At.nil (At.thn ?_))))))); rcases bite j with ⟨h2730, j⟩ | ⟨h2730, j⟩
     ··refine At.condT rfl (decide_eq_true h2730) ?_
       refine At.skip (At.thn (At.seq ?_)); refine At.block ?_; refine At.seq (At.region (At.run 1 rfl (At.y (Y.load rfl rfl .z rfl rfl rfl) rfl rfl rfl (At.run 1 rfl ?_)))); obtain ⟨h2731, j⟩ := bnone j; refine At.y (Y.ixRd hr0_2 rfl rfl rfl rfl rfl rfl rfl h2731.1 h2731.2) rfl rfl rfl (At.y (Y.ldFl hr0_2 rfl (q := 0) rfl rfl h2731.1 h2731.2 rfl rfl rfl) rfl rfl rfl ?_); refine At.alloc rfl rfl rfl (fun b2732 => ?_); refine At.store rfl rfl rfl rfl .z rfl rfl rfl (.c (.c (.c .n))) ?_; refine At.nil (At.thn ?_); refine At.quiet (by kernel_rfl) ?_; refine At.Quiet.run 1 rfl ?_; obtain ⟨h2733, j⟩ := bnone j; refine At.Quiet.y (Y.addStr rfl rfl h2733) rfl rfl rfl ?_; refine At.Quiet.run 1 rfl ?_; refine At.Quiet.y (Y.load rfl rfl .z rfl rfl rfl) rfl rfl rfl ?_; obtain ⟨t2734, hc2735, j⟩ := bbind j; refine At.Quiet.call rfl Q42.callee rfl rfl rfl (Q42.spec _ _  ((gt a0_2 x864).From)  hc2735) (fun _ _ h_ => ⟨h_.1, fun _ hs => h_.2 ▸ hs⟩) ?_; obtain ⟨h2736, j⟩ := bnone j; refine At.Quiet.y (Y.addStr rfl rfl h2736) rfl rfl rfl ?_; obtain ⟨h2737, j⟩ := bnone j; refine At.Quiet.y (Y.addStr rfl rfl h2737) rfl rfl rfl ?_; refine At.Quiet.run 1 rfl ?_; refine At.Quiet.y (Y.load rfl rfl (.s .z) rfl rfl rfl) rfl rfl rfl ?_; refine At.Quiet.run 1 rfl ?_; refine At.Quiet.y (Y.load rfl rfl .z rfl rfl rfl) rfl rfl rfl ?_; obtain ⟨h2738, j⟩ := bnone j; refine At.Quiet.y (Y.ixRd hr0_1 rfl rfl rfl rfl rfl rfl rfl h2738.1 h2738.2) rfl rfl rfl ?_; refine At.Quiet.y (Y.ldFl hr0_1 rfl (q := 0) rfl rfl h2738.1 h2738.2 rfl rfl rfl) rfl rfl rfl ?_; obtain ⟨h2739, j⟩ := bnone j; refine At.Quiet.y (Y.addStr rfl rfl h2739) rfl rfl rfl ?_; obtain ⟨h2740, j⟩ := bnone j; refine At.Quiet.y (Y.addStr rfl rfl h2740) rfl rfl rfl ?_; refine At.Quiet.run 1 rfl ?_; refine At.Quiet.y (Y.load rfl rfl .z rfl rfl rfl) rfl rfl rfl ?_; obtain ⟨t2741, hc2742, j⟩ := bbind j; refine At.Quiet.call rfl Q42.callee rfl rfl rfl (Q42.spec _ _  ((gt a0_2 x864).To)  hc2742) (fun _ _ h_ => ⟨h_.1, fun _ hs => h_.2 ▸ hs⟩) ?_; obtain ⟨h2743, j⟩ := bnone j; refine At.Quiet.y (Y.addStr rfl rfl h2743) rfl rfl rfl ?_; obtain ⟨h2744, j⟩ := bnone j; refine At.Quiet.y (Y.addStr rfl rfl h2744) rfl rfl rfl ?_; refine At.Quiet.run 1 rfl (At.Quiet.nil ?_); refine At.ibn ?_; refine At.thn (At.region (At.run 3 rfl (At.nil (At.drop .z ?_)))); have j := bnx hf_ j; exact fun a w e hs => ⟨m1073, ((((((((x863 ++ ([101, 100, 103, 101, 32] : Bs)) ++ t2734) ++ ([32] : Bs)) ++ gt a0_1 ((gt a0_2 x864).Action)) ++ ([32] : Bs)) ++ t2741) ++ ([10] : Bs)), IntKind.i64.wrap (x864 + 1)), hlt1075, j, e.sub ⟨rfl, rfl, rfl, trivial⟩, hs⟩
     ··refine At.condF rfl (decide_eq_false h2730) ?_
       refine At.exit ?_; refine At.the ?_; refine At.the ?_; exact fun a w e hs => J1076 x863 (bdn j ho1071) a w (e.sub ⟨rfl, rfl, trivial⟩) hs
 ··refine At.condT rfl (nt (bn h256)) ?_
   refine At.seq (At.region (At.run 1 rfl (At.nil (At.thn (At.ret (At.thr (At.drop .z ?_))))))); cases bret j; exact At.res (.inl rfl) rfl rfl ⟨rfl, rfl⟩

noncomputable def Q109.f (a0_0 : Int) (a0_1 : List Bs) (a0_2 : List Q0) (a0_3 : List Q1) : Option Bool :=
 (Q86.f ).bind fun t267 =>
 (Q61.f a0_0 a0_1 a0_2 a0_3).bind fun t269 =>
 (Q21.f t269.2 (((([] : List Bs) ++ a0_1) ++ ([([33] : Bs)] : List Bs)).take (a0_1.length : Int).toNat) (((([] : List Q0) ++ a0_2) ++ ([(⟨(-7), 0, 0⟩ : Q0)] : List Q0)).take (a0_2.length : Int).toNat) (t269.1.map Q6.pl)).bind fun t301 =>
 (Q16.f t269.2 ((([] : List Bs) ++ a0_1) ++ ([([33] : Bs)] : List Bs)) (a0_1.length : Int).toNat ((([] : List Q0) ++ a0_2) ++ ([(⟨(-7), 0, 0⟩ : Q0)] : List Q0)) (a0_2.length : Int).toNat t269.1 a0_0 a0_1 a0_2 a0_3).bind fun t303 =>
 jn (
 if t267 = true then
 some (.inl t303.2.2.2)
 else
 some (.inl false)) (fun (x505 : Bool) =>
 jn (
 if x505 = true then
 (Q20.f a0_0 a0_1 a0_2 a0_3).bind fun t716 =>
 some (.inl (bseq t301 t716))
 else
 some (.inl false)) (fun (x710 : Bool) =>
 some x710))
theorem Q109.spec (R : Res) (Fr : List HProp) (A0_1 : Option Addr) (n0_1 : Nat) (c0_1 : Nat) (A0_2 : Option Addr) (n0_2 : Nat) (c0_2 : Nat) (A0_3 : Option Addr) (n0_3 : Nat) (c0_3 : Nat) (a0_0 : Int) (a0_1 : List Bs) (a0_2 : List Q0) (a0_3 : List Q1) (hr0_1 : RdS Fl.bs.rep R.heap A0_1 a0_1) (hn0_1 : a0_1.length = n0_1) (hc0_1 : n0_1 ≤ c0_1) (hr0_2 : RdS Q0.fl.rep R.heap A0_2 a0_2) (hn0_2 : a0_2.length = n0_2) (hc0_2 : n0_2 ≤ c0_2) (hr0_3 : RdS Q1.rep R.heap A0_3 a0_3) (hn0_3 : a0_3.length = n0_3) (hc0_3 : n0_3 ≤ c0_3) {r : Bool} (j : Q109.f a0_0 a0_1 a0_2 a0_3 = some r) :
 Spec Tryz.prog 8 [.agg #[.int .i64 a0_0, .slice A0_1 n0_1 c0_1, .slice A0_2 n0_2 c0_2, .slice A0_3 n0_3 c0_3]] R (Fr) (fun v l' => v = .bool r ∧ Fr = l') := by
 subst hn0_1; subst hn0_2; subst hn0_3; refine Spec.of Tryz.func8 rfl rfl ?_; unfold Q109.f at j; have j := brun j; refine At.seq (At.region ?_); refine At.box rfl rfl (cs := [.int .i64 a0_0, .slice A0_1 a0_1.length c0_1, .slice A0_2 a0_2.length c0_2, .slice A0_3 a0_3.length c0_3]) rfl rfl (fun b266 => ?_); refine At.run 1 rfl (At.nil (At.thn (At.seq (At.region ?_)))); obtain ⟨t267, hc268, j⟩ := bbind j; refine At.call rfl Q86.callee rfl rfl rfl (Q86.spec _ _    hc268) ?_; rintro _ _ ⟨rfl, rfl⟩; refine At.run 1 rfl (At.nil (At.thn (At.seq (At.region (At.y (Y.load rfl rfl .z rfl rfl rfl) rfl rfl rfl ?_))))); obtain ⟨t269, hc270, j⟩ := bbind j; refine At.call rfl Q61.callee rfl rfl rfl (Q61.spec _ _ A0_1 a0_1.length c0_1 A0_2 a0_2.length c0_2 A0_3 a0_3.length c0_3 a0_0 a0_1 a0_2 a0_3 hr0_1 rfl hc0_1 hr0_2 rfl hc0_2 hr0_3 rfl hc0_3 hc270) ?_; rintro _ _ ⟨w271, w272, w273, w274, w275, w276, w277, rfl, rfl, rfl⟩; refine At.alloc rfl rfl rfl (fun b282 => ?_); refine At.store rfl rfl rfl rfl .z rfl rfl rfl (.c (.c (.c (.c .n)))) ?_; refine At.nil (At.thn (At.seq (At.region (At.y (Y.load rfl rfl .z rfl rfl rfl) rfl rfl rfl ?_)))); refine At.freeze (.s .z) fun R283 hr284 hn285 hc286 hs287 th288 => ?_; refine At.freeze (.s .z) fun R289 hr290 hn291 hc292 hs293 th294 => ?_; refine At.freezeGrow (.s .z) fun R295 hr296 hn297 hc298 hs299 th300 => ?_; obtain ⟨t301, hc302, j⟩ := bbind j; refine At.call rfl Q21.callee rfl rfl rfl (Q21.spec _ _ w276 ((((([] : List Bs) ++ a0_1) ++ ([([33] : Bs)] : List Bs)).take (a0_1.length : Int).toNat).length) w277 w274 ((((([] : List Q0) ++ a0_2) ++ ([(⟨(-7), 0, 0⟩ : Q0)] : List Q0)).take (a0_2.length : Int).toNat).length) w275 w272 t269.1.length w273 t269.2 (((([] : List Bs) ++ a0_1) ++ ([([33] : Bs)] : List Bs)).take (a0_1.length : Int).toNat) (((([] : List Q0) ++ a0_2) ++ ([(⟨(-7), 0, 0⟩ : Q0)] : List Q0)).take (a0_2.length : Int).toNat) (t269.1.map Q6.pl) (RdS.mono (hs293.trans hs299) (RdS.take hr284 _)) rfl (Nat.le_trans (List.length_take_le' _ _) (Nat.le_trans (Nat.le_of_eq hn285) hc286)) (RdS.mono hs299 (RdS.take hr290 _)) rfl (Nat.le_trans (List.length_take_le' _ _) (Nat.le_trans (Nat.le_of_eq hn291) hc292)) (RdS.le Q6.le hr296) ((List.length_map _).trans hn297) hc298 hc302) ?_; rintro _ _ ⟨rfl, rfl⟩; refine At.run 1 rfl (At.nil (At.thn (At.seq (At.region (At.y (Y.load rfl rfl .z rfl rfl rfl) rfl rfl rfl (At.y (Y.load rfl rfl (.s .z) rfl rfl rfl) rfl rfl rfl ?_)))))); refine At.thaw th300 ?_; refine At.thaw th294 ?_; refine At.thaw th288 ?_; obtain ⟨t303, hc304, j⟩ := bbind j; refine At.call rfl Q16.callee rfl rfl rfl (Q16.spec _ _ w276 w277 w274 w275 w272 t269.1.length w273 A0_1 a0_1.length c0_1 A0_2 a0_2.length c0_2 A0_3 a0_3.length c0_3 t269.2 ((([] : List Bs) ++ a0_1) ++ ([([33] : Bs)] : List Bs)) (a0_1.length : Int).toNat ((([] : List Q0) ++ a0_2) ++ ([(⟨(-7), 0, 0⟩ : Q0)] : List Q0)) (a0_2.length : Int).toNat t269.1 a0_0 a0_1 a0_2 a0_3 rfl hr0_1 rfl hc0_1 hr0_2 rfl hc0_2 hr0_3 rfl hc0_3 hc304) ?_; rintro _ _ ⟨rfl, rfl⟩; refine At.run 1 rfl (At.nil (At.thn (At.seq (At.region (At.run 2 rfl ?_))))); obtain ⟨G506, hl507, hr508, j⟩ := bjoin j; refine At.joinO 2 (X := Bool) (fun x505 => [(1, .pointer (some ⟨b266, 0, none⟩)), (5, .string ⟨(t301).toArray⟩), (18, .bool x505)]) (fun x505 => row Fl.bs 9 w276 (((([] : List Bs) ++ a0_1) ++ ([([33] : Bs)] : List Bs)).length) w277 t303.1 :: row Q0.fl 35 w274 (((([] : List Q0) ++ a0_2) ++ ([(⟨(-7), 0, 0⟩ : Q0)] : List Q0)).length) w275 t303.2.1 :: grow Q6.ow 37 w272 t269.1.length w273 t303.2.2.1 :: pt b282 (.cells [.int .i64 t269.2, .slice w276 ((((([] : List Bs) ++ a0_1) ++ ([([33] : Bs)] : List Bs)).take (a0_1.length : Int).toNat).length) w277, .slice w274 ((((([] : List Q0) ++ a0_2) ++ ([(⟨(-7), 0, 0⟩ : Q0)] : List Q0)).take (a0_2.length : Int).toNat).length) w275, .slice w272 t269.1.length w273].toArray 26) :: pt b266 (.cells [.int .i64 a0_0, .slice A0_1 a0_1.length c0_1, .slice A0_2 a0_2.length c0_2, .slice A0_3 a0_3.length c0_3].toArray 26) :: Fr) (fun x505 => G506 (.inl x505) = some r) ?_ (fun J509 => ?_)
 ·rintro x505 j; have j := (hl507 _).symm.trans j
  ·refine At.run 1 rfl ?_; obtain ⟨G711, hl712, hr713, j⟩ := bjoin j; refine At.joinO 5 (X := Bool) (fun x710 => [(24, .bool x710)]) (fun x710 => row Fl.bs 9 w276 (((([] : List Bs) ++ a0_1) ++ ([([33] : Bs)] : List Bs)).length) w277 t303.1 :: row Q0.fl 35 w274 (((([] : List Q0) ++ a0_2) ++ ([(⟨(-7), 0, 0⟩ : Q0)] : List Q0)).length) w275 t303.2.1 :: grow Q6.ow 37 w272 t269.1.length w273 t303.2.2.1 :: pt b282 (.cells [.int .i64 t269.2, .slice w276 ((((([] : List Bs) ++ a0_1) ++ ([([33] : Bs)] : List Bs)).take (a0_1.length : Int).toNat).length) w277, .slice w274 ((((([] : List Q0) ++ a0_2) ++ ([(⟨(-7), 0, 0⟩ : Q0)] : List Q0)).take (a0_2.length : Int).toNat).length) w275, .slice w272 t269.1.length w273].toArray 26) :: pt b266 (.cells [.int .i64 a0_0, .slice A0_1 a0_1.length c0_1, .slice A0_2 a0_2.length c0_2, .slice A0_3 a0_3.length c0_3].toArray 26) :: Fr) (fun x710 => G711 (.inl x710) = some r) ?_ (fun J714 => ?_)
   ·rintro x710 j; have j := (hl712 _).symm.trans j
    ·refine At.run 1 rfl (At.nil (At.thn (At.ret (At.drop .z (At.drop .z (At.drop .z (At.drop .z ?_))))))); refine At.drop .z ?_; cases bret j; exact At.res (.inl rfl) rfl rfl ⟨rfl, rfl⟩
   ··rcases bite j with ⟨h715, j⟩ | ⟨h715, j⟩
     ··refine At.know (t := 19) rfl h715 ?_
       refine At.run 1 rfl ?_; refine At.y (Y.load rfl rfl (.s (.s (.s (.s .z)))) rfl rfl rfl) rfl rfl rfl ?_; obtain ⟨t716, hc717, j⟩ := bbind j; refine At.call rfl Q20.callee rfl rfl rfl (Q20.spec _ _ A0_1 a0_1.length c0_1 A0_2 a0_2.length c0_2 A0_3 a0_3.length c0_3 a0_0 a0_1 a0_2 a0_3 hr0_1 rfl hc0_1 hr0_2 rfl hc0_2 hr0_3 rfl hc0_3 hc717) ?_; rintro _ _ ⟨rfl, rfl⟩; refine At.run 2 rfl ?_; exact At.of (J714 (bseq t301 t716) j) ⟨rfl, trivial⟩
     ··refine At.know (t := 19) rfl (bn h715) ?_
       refine At.run 5 rfl ?_; exact At.of (J714 false j) ⟨rfl, trivial⟩
 ··rcases bite j with ⟨h718, j⟩ | ⟨h718, j⟩
   ··refine At.know (t := 16) rfl h718 ?_
     refine At.run 2 rfl ?_; exact At.of (J509 t303.2.2.2 j) ⟨rfl, rfl, rfl, trivial⟩
   ··refine At.know (t := 16) rfl (bn h718) ?_
     refine At.run 2 rfl ?_; exact At.of (J509 false j) ⟨rfl, rfl, rfl, trivial⟩

end Go.Bw
namespace Go.Bw
open Go Go.RowKit

def Ap {α : Type} (a b : Option α) : Prop := ∀ r, a = some r → b = some r
section
variable {α β σ τ ρ : Type}
theorem Ap.refl (a : Option α) : Ap a a := fun _ h => h
theorem Ap.none {b : Option α} : Ap Option.none b := fun _ h => by cases h
theorem Ap.bind {a b : Option α} {f g : α → Option β} (h : Ap a b) (k : ∀ t, Ap (f t) (g t)) : Ap (a.bind f) (b.bind g) := fun r e => by
 cases ha : a with
 | none => rw [ha] at e; cases e
 | some t => rw [ha] at e; rw [h t ha]; exact k t r e
theorem Ap.ite {c : Prop} [i : Decidable c] [j : Decidable c] {a b a' b' : Option α} (h : Ap a a') (k : Ap b b') : Ap (@_root_.ite _ c i a b) (@_root_.ite _ c j a' b') := fun r e => by
 by_cases hc : c
 ·rw [if_pos hc] at e ⊢; exact h r e
 ·rw [if_neg hc] at e ⊢; exact k r e
theorem Ap.jn {a b : Option (σ ⊕ ρ)} {f g : σ → Option ρ} (h : Ap a b) (k : ∀ t, Ap (f t) (g t)) : Ap (Bw.jn a f) (Bw.jn b g) := fun r e => by
 cases ha : a with
 | none => rw [ha] at e; cases e
 | some t =>
  rw [ha] at e
  rw [h t ha]
  cases t with
  | inl s => exact k s r e
  | inr o => exact e
theorem Ap.up {a b : Option ρ} (h : Ap a b) : Ap (Bw.up a : Option (σ ⊕ ρ)) (Bw.up b) := fun r e => by
 cases ha : a with
 | none => rw [ha] at e; cases e
 | some t => rw [ha] at e; rw [h t ha]; exact e
theorem Ap.upL {a b : Option ρ} (h : Ap a b) : Ap (Bw.upL a : Option (σ ⊕ (τ ⊕ ρ))) (Bw.upL b) := fun r e => by
 cases ha : a with
 | none => rw [ha] at e; cases e
 | some t => rw [ha] at e; rw [h t ha]; exact e
def iterC (fu : Nat) (body : σ → Option (σ ⊕ ρ)) (s : σ) : Option ρ := iterN body fu s
theorem Q190 {f g : σ → Option (σ ⊕ ρ)} (h : ∀ s, Ap (f s) (g s)) : ∀ {n : Nat} {s : σ}, Ap (iterN f n s) (iterN g n s)
 | 0, _ => fun _ e => by cases e
 | n + 1, s => fun r e => by
  unfold iterN at e ⊢
  cases hf : f s with
  | none => rw [hf] at e; cases e
  | some t =>
   rw [hf] at e
   rw [h s t hf]
   cases t with
   | inl s' => exact Q190 h r e
   | inr o => exact e
theorem Ap.iter {fu : Nat} {f g : σ → Option (σ ⊕ ρ)} {s : σ} (h : ∀ s, Ap (f s) (g s)) : Ap (iterC fu f s) (Bw.iter g s) := fun r e => Q17.2 ⟨fu, Q190 h r e⟩
theorem Q217 {f g : σ → α → Option σ} (h : ∀ s x, Ap (f s x) (g s x)) : ∀ {xs : List α} {s : σ}, Ap (foldO f s xs) (foldO g s xs)
 | [], _ => fun _ e => e
 | x :: xs, s => Ap.bind (h s x) fun t => Q217 h
def orderedC (kvs : List α) (step : σ → α → Option σ) (s0 : σ) (out : σ → τ) (f : τ → Option β) : Option β := if kvs.length ≤ 1 then (foldO step s0 kvs).bind fun s => f (out s) else Option.none
theorem Ap.ordered {kvs : List α} {f g : σ → α → Option σ} {s0 : σ} {out : σ → τ} {p q : τ → Option β} (h : ∀ s x, Ap (f s x) (g s x)) (k : ∀ t, Ap (p t) (q t)) : Ap (orderedC kvs f s0 out p) (Bw.ordered kvs g s0 out q) := fun r e => by
 unfold orderedC at e
 split at e
 ·rename_i hl
  refine Q193.2 fun ys hy => ?_
  have : ys = kvs := by
   match kvs, hl with
   | [], _ => exact hy.eq_nil
   | [x], _ => exact List.perm_singleton.1 hy
   | _ :: _ :: _, hl => simp at hl
  subst this
  exact Ap.bind (Q217 h) (fun t => k _) r e
 ·cases e
def bseqC (x y : Bs) : Bool := decide (x = y)
theorem Q124 : bseq = bseqC := by
 funext x y
 unfold bseqC
 rw [Bool.eq_iff_iff, Q93]
 simp
def soloC (a : List α) : Option (List α) := if a.length ≤ 1 then some a else Option.none
theorem Q168 {a r : List α} (h : soloC a = some r) : r = a ∧ (a = [] ∨ ∃ x, a = [x]) := by
 unfold soloC at h
 split at h
 ·rename_i hl
  refine ⟨(Option.some.inj h).symm, ?_⟩
  match a, hl with
  | [], _ => exact .inl rfl
  | [x], _ => exact .inr ⟨x, rfl⟩
  | _ :: _ :: _, hl => simp at hl
 ·cases h
end
end Go.Bw
namespace Go.Bw
open Go Go.RowKit Go.Proofs Go.Sort

def cmp3 (a b : Int) : Int := if a < b then -1 else if b < a then 1 else 0
theorem Q200 (a b : Int) : Q43.f a b = some (cmp3 a b) := by
 unfold Q43.f Q57.f cmp3
 simp
 split
 ·rfl
 ·split <;> rfl
theorem Q126 {a b : Int} : cmp3 a b < 0 ↔ a < b := by
 unfold cmp3
 split
 ·simp [*]
 ·split <;> simp <;> omega
theorem Q138 {a b : Int} : cmp3 a b = 0 ↔ a = b := by
 unfold cmp3
 split
 ·simp; omega
 ·split <;> simp <;> omega
theorem or_run (a b c : Int) : Q19.f [a, b, c] = some (if a = 0 then if b = 0 then c else b else a) := by
 unfold Q19.f Q19.l0
 by_cases ha : a = 0
 ·by_cases hb : b = 0
  ·by_cases hc : c = 0
   ·subst ha hb hc
    rw [Q95, Q19.l0b]
    simp [nx, gt, IntKind.wrap, IntKind.bits, IntKind.signed]
    rw [Q95, Q19.l0b]
    simp [nx, gt, IntKind.wrap, IntKind.bits, IntKind.signed]
    rw [Q95, Q19.l0b]
    simp [nx, gt, IntKind.wrap, IntKind.bits, IntKind.signed]
    rw [Q95, Q19.l0b]
    simp [dn, jn]
   ·subst ha hb
    rw [Q95, Q19.l0b]
    simp [nx, gt, IntKind.wrap, IntKind.bits, IntKind.signed]
    rw [Q95, Q19.l0b]
    simp [nx, gt, IntKind.wrap, IntKind.bits, IntKind.signed]
    rw [Q95, Q19.l0b]
    simp [nx, gt, hc, upL, jn]
  ·subst ha
   rw [Q95, Q19.l0b]
   simp [nx, gt, IntKind.wrap, IntKind.bits, IntKind.signed]
   rw [Q95, Q19.l0b]
   simp [nx, gt, hb, upL, jn]
 ·rw [Q95, Q19.l0b]
  simp [nx, gt, ha, upL, jn]
def edgeCmp (x y : Q0) : Int := if cmp3 x.From y.From = 0 then if cmp3 x.Action y.Action = 0 then cmp3 x.To y.To else cmp3 x.Action y.Action else cmp3 x.From y.From
theorem Q186 (x y : Q0) : Q56.f x.From x.Action x.To y.From y.Action y.To = some (edgeCmp x y) := by
 unfold Q56.f
 simp only [Q200, Option.bind_some, or_run]
 rfl
theorem Q182 (x y : Q0) : Q51.cmp x y = some (edgeCmp x y) := Q186 x y
def edgeLt (x y : Q0) : Prop := x.From < y.From ∨ x.From = y.From ∧ (x.Action < y.Action ∨ x.Action = y.Action ∧ x.To < y.To)
theorem Q159 {x y : Q0} : edgeCmp x y < 0 ↔ edgeLt x y := by
 unfold edgeCmp edgeLt
 by_cases h1 : x.From = y.From
 ·rw [if_pos (Q138.2 h1)]
  by_cases h2 : x.Action = y.Action
  ·rw [if_pos (Q138.2 h2), Q126]; omega
  ·rw [if_neg (fun h => h2 (Q138.1 h)), Q126]; omega
 ·rw [if_neg (fun h => h1 (Q138.1 h)), Q126]; omega
theorem Q119 (x y : Q0) : ltOf (gcf Q51.cmp) x y = true ↔ edgeLt x y := by
 unfold ltOf gcf
 rw [Q182]
 simp [Q159]
theorem edge_ltOf' (x y : Q0) : ltOf (gcf Q51.cmp) x y = false ↔ ¬ edgeLt x y := by
 rw [← Q119]; simp
theorem edge_tot : CmpTot Q51.cmp := by
 refine ⟨⟨fun x y => by rw [Q182]; rfl, fun x => ?_, fun x y z h1 h2 => ?_, fun x y z h1 h2 => ?_⟩, fun x y h1 h2 => ?_⟩
 ·rw [edge_ltOf']; unfold edgeLt; omega
 ·rw [Q119] at *; unfold edgeLt at *; omega
 ·rw [edge_ltOf'] at *; unfold edgeLt at *; omega
 ·rw [edge_ltOf'] at *
  unfold edgeLt at *
  cases x
  cases y
  simp at *
  omega
theorem cb_self : ∀ (x : Bs), Lib.compareBytes x x = 0
 | [] => rfl
 | a :: x => by unfold Lib.compareBytes; rw [if_neg (UInt8.lt_irrefl a), if_neg (UInt8.lt_irrefl a)]; exact cb_self x
theorem cb_eq : ∀ {x y : Bs}, Lib.compareBytes x y = 0 → x = y
 | [], [], _ => rfl
 | [], _ :: _, h => by simp [Lib.compareBytes] at h
 | _ :: _, [], h => by simp [Lib.compareBytes] at h
 | a :: x, b :: y, h => by
  unfold Lib.compareBytes at h
  split at h
  ·simp at h
  ·split at h
   ·simp at h
   ·rename_i h1 h2
    rw [cb_eq h, UInt8.le_antisymm (UInt8.not_lt.1 h2) (UInt8.not_lt.1 h1)]
theorem cb_neg : ∀ {x y : Bs}, Lib.compareBytes y x = - Lib.compareBytes x y
 | [], [] => rfl
 | [], _ :: _ => rfl
 | _ :: _, [] => rfl
 | a :: x, b :: y => by
  unfold Lib.compareBytes
  by_cases h1 : a < b
  ·rw [if_neg (UInt8.lt_asymm h1), if_pos h1, if_pos h1]; rfl
  ·by_cases h2 : b < a
   ·rw [if_pos h2, if_neg h1, if_pos h2]
   ·rw [if_neg h1, if_neg h2, if_neg h2, if_neg h1]; exact cb_neg
theorem Q161 : ∀ {x y z : Bs}, Lib.compareBytes x y < 0 → Lib.compareBytes y z < 0 → Lib.compareBytes x z < 0
 | [], [], _, h, _ => by simp [Lib.compareBytes] at h
 | [], _ :: _, [], _, h => by simp [Lib.compareBytes] at h
 | [], _ :: _, _ :: _, _, _ => by simp [Lib.compareBytes]
 | _ :: _, [], _, h, _ => by simp [Lib.compareBytes] at h
 | _ :: _, _ :: _, [], _, h => by simp [Lib.compareBytes] at h
 | a :: x, b :: y, c :: z, h1, h2 => by
  unfold Lib.compareBytes at h1 h2 ⊢
  by_cases hab : a < b
  ·by_cases hbc : b < c
   ·rw [if_pos (UInt8.lt_trans hab hbc)]; decide
   ·rw [if_neg hbc] at h2
    by_cases hcb : c < b
    ·rw [if_pos hcb] at h2; simp at h2
    ·have : b = c := UInt8.le_antisymm (UInt8.not_lt.1 hcb) (UInt8.not_lt.1 hbc)
     subst this
     rw [if_pos hab]; decide
  ·rw [if_neg hab] at h1
   by_cases hba : b < a
   ·rw [if_pos hba] at h1; simp at h1
   ·have : a = b := UInt8.le_antisymm (UInt8.not_lt.1 hba) (UInt8.not_lt.1 hab)
    subst this
    rw [if_neg hba] at h1
    by_cases hbc : a < c
    ·rw [if_pos hbc]; decide
    ·rw [if_neg hbc] at h2 ⊢
     by_cases hcb : c < a
     ·rw [if_pos hcb] at h2; simp at h2
     ·rw [if_neg hcb] at h2 ⊢
      exact Q161 h1 h2
theorem Q204 (x y : Q1) : Q52.cmp x y = some (Lib.compareBytes x.Name y.Name) := rfl
theorem Q128 (x y : Q1) : ltOf (gcf Q52.cmp) x y = true ↔ Lib.compareBytes x.Name y.Name < 0 := by
 unfold ltOf gcf
 rw [Q204]
 simp
theorem prop_ltOf' (x y : Q1) : ltOf (gcf Q52.cmp) x y = false ↔ 0 ≤ Lib.compareBytes x.Name y.Name := by
 have := Q128 x y
 rw [← Bool.not_eq_true, this]; omega
theorem prop_swo : CmpSwo Q52.cmp := by
 refine ⟨fun x y => by rw [Q204]; rfl, fun x => ?_, fun x y z h1 h2 => ?_, fun x y z h1 h2 => ?_⟩
 ·rw [prop_ltOf', cb_self]; decide
 ·rw [Q128] at *; exact Q161 h1 h2
 ·rw [prop_ltOf'] at *
  rw [cb_neg] at h1 h2 ⊢
  have h1' : Lib.compareBytes y.Name x.Name ≤ 0 := by omega
  have h2' : Lib.compareBytes z.Name y.Name ≤ 0 := by omega
  by_cases e1 : Lib.compareBytes y.Name x.Name = 0
  ·rw [← cb_eq e1]; omega
  ·by_cases e2 : Lib.compareBytes z.Name y.Name = 0
   ·rw [cb_eq e2]; omega
   ·have := Q161 (show Lib.compareBytes z.Name y.Name < 0 by omega) (show Lib.compareBytes y.Name x.Name < 0 by omega)
    omega
end Go.Bw
namespace Go.Bw
open Go Go.RowKit

theorem Q94 {σ ρ : Type} {body : σ → Option (σ ⊕ ρ)} (I : σ → Prop) (Q : ρ → Prop) (μ : σ → Nat) (h : ∀ s, I s → (∃ r, body s = some (.inr r) ∧ Q r) ∨ ∃ s', body s = some (.inl s') ∧ I s' ∧ μ s' < μ s) :
 ∀ s, I s → ∃ r, iter body s = some r ∧ Q r := by
 have key : ∀ n s, μ s < n → I s → ∃ r, iter body s = some r ∧ Q r := by
  intro n
  induction n with
  | zero => intro s hn; omega
  | succ n ih =>
   intro s hn hI
   rw [Q95]
   rcases h s hI with ⟨r, hr, hq⟩ | ⟨s', hs, hI', hlt⟩
   ·exact ⟨r, by rw [hr]; rfl, hq⟩
   ·obtain ⟨r, hr, hq⟩ := ih s' (by omega) hI'
    exact ⟨r, by rw [hs]; exact hr, hq⟩
 exact fun s hI => key _ s (Nat.lt_succ_self _) hI
theorem wrap64 {x : Int} (h0 : -9223372036854775808 ≤ x) (h1 : x ≤ 9223372036854775807) : IntKind.i64.wrap x = x := by
 simp [IntKind.wrap, IntKind.bits, IntKind.signed]
 omega
section
variable {α : Type} [Inhabited α]
theorem st_len (xs : List α) (i : Int) (x : α) : (st xs i x).length = xs.length := by simp [st]
theorem gt_st {xs : List α} {i j : Int} {x : α} (hi : 0 ≤ i) (hi' : i < (xs.length : Int)) (hj : 0 ≤ j) : gt (st xs i x) j = if j = i then x else gt xs j := by
 unfold gt st
 rw [List.getD_eq_getElem?_getD, List.getD_eq_getElem?_getD, List.getElem?_set]
 by_cases h : j = i
 ·subst h
  have : j.toNat < xs.length := by omega
  simp [this]
 ·have : ¬ i.toNat = j.toNat := by omega
  simp [this, h]
theorem Q47 {xs : List α} {i : Int} (h0 : 0 ≤ i) (h1 : i < (xs.length : Int)) : gt xs i ∈ xs := List.mem_of_getElem? (Q102 h0 h1)
theorem Q173 {xs : List α} {x : α} : gt (xs ++ [x]) (xs.length : Int) = x := by
 unfold gt
 simp
theorem Q120 {xs : List α} {i : Nat} {x : α} (h : xs[i]? = some x) : gt xs (i : Int) = x := by
 unfold gt
 simp [List.getD_eq_getElem?_getD, h]
end
end Go.Bw
namespace Go.Bw
open Go Go.RowKit

theorem up_loop {ρ : Type} {body : Int → Option (Int ⊕ ρ)} {N : Int} {Q : ρ → Prop} (hN : N ≤ 9223372036854775807) (k0 : Int) (h0 : -9223372036854775808 ≤ k0) (h : ∀ i, k0 ≤ i → (∃ r, body i = some (.inr r) ∧ Q r) ∨ i < N ∧ body i = some (.inl (IntKind.i64.wrap (i + 1)))) :
 ∃ r, iter body k0 = some r ∧ Q r := by
 refine Q94 (fun i => k0 ≤ i) Q (fun i => (N - i).toNat) (fun i hi => ?_) k0 (Int.le_refl _)
 rcases h i hi with h | ⟨h1, h2⟩
 ·exact .inl h
 ·right
  rw [wrap64 (by omega) (by omega)] at h2
  exact ⟨_, h2, by omega, by omega⟩
theorem in_run (a n : Int) (x : List Bs) (y : List Q0) (z : List Q1) : Q45.f a n x y z = some (decide (0 ≤ a ∧ a < n)) := by
 unfold Q45.f
 by_cases h : 0 ≤ a <;> simp [h, jn]
theorem jn_tot {σ ρ : Type} {x : Option (σ ⊕ ρ)} {f : σ → Option ρ} (hx : ∃ t, x = some t) (hf : ∀ s, ∃ r, f s = some r) : ∃ r, jn x f = some r := by
 obtain ⟨t, rfl⟩ := hx
 cases t with
 | inl s => exact hf s
 | inr r => exact ⟨r, rfl⟩
theorem rune_name (r : Int) : ∃ b, Q63.f r = some b := by
 unfold Q63.f
 repeat' first
  | exact ⟨_, rfl⟩
  | refine jn_tot ?_ fun _ => ?_
  | split
def EdgeIn (n : Int) (m : Nat) (e : Q0) : Prop := 0 ≤ e.From ∧ e.From < n ∧ 0 ≤ e.To ∧ e.To < n ∧ 0 ≤ e.Action ∧ e.Action < (m : Int)
end Go.Bw
namespace Go.Bw
open Go Go.RowKit

theorem it_go {σ ρ : Type} {body : σ → Option (σ ⊕ ρ)} {s s' : σ} (h : body s = some (.inl s')) : iter body s = iter body s' := by rw [Q95, h]; rfl
theorem it_end {σ ρ : Type} {body : σ → Option (σ ⊕ ρ)} {s : σ} {r : ρ} (h : body s = some (.inr r)) : iter body s = some r := by rw [Q95, h]; rfl
def dg (k : Nat) : UInt8 := UInt8.ofNat (48 + k)
def dec (n : Nat) : Bs := if n < 10 then [dg n] else dec (n / 10) ++ [dg (n % 10)]
termination_by n
decreasing_by omega
theorem Q122 {n : Nat} (h : n < 10) : dec n = [dg n] := by rw [dec, if_pos h]
theorem Q142 {n : Nat} (h : ¬ n < 10) : dec n = dec (n / 10) ++ [dg (n % 10)] := by rw [dec, if_neg h]
theorem Q98 {n : Nat} (h : n < 100) : 1 ≤ (dec n).length ∧ (dec n).length ≤ 2 := by
 by_cases h1 : n < 10
 ·rw [Q122 h1]; simp
 ·rw [Q142 h1, Q122 (by omega)]; simp
theorem itoa_tab : ∀ k : Fin 100, Q66.f (k.1 : Int) = some (if k.1 < 10 then [dg k.1] else [dg (k.1 / 10), dg (k.1 % 10)]) := by decide +kernel
theorem Q139 {v : Int} (h0 : 0 ≤ v) (h1 : v < 100) : Q66.f v = some (dec v.toNat) := by
 have := itoa_tab ⟨v.toNat, by omega⟩
 rw [show ((v.toNat : Nat) : Int) = v from by omega] at this
 rw [this]
 by_cases h : v.toNat < 10
 ·rw [if_pos h, Q122 h]
 ·rw [if_neg h, Q142 h, Q122 (by omega)]; rfl
theorem Q202 (m : Nat) : byteOf (IntKind.u8.wrap (IntKind.i64.wrap (48 + Int.tmod (m : Int) 10))) = dg (m % 10) := by
 have e : Int.tmod (m : Int) 10 = ((m % 10 : Nat) : Int) := by
  rw [Int.tmod_eq_emod_of_nonneg (by omega)]; omega
 rw [e, wrap64 (by omega) (by omega)]
 have : IntKind.u8.wrap (48 + ((m % 10 : Nat) : Int)) = 48 + ((m % 10 : Nat) : Int) := by
  simp only [IntKind.wrap, IntKind.bits, IntKind.signed]
  simp
  omega
 rw [this]
 unfold byteOf dg
 congr 1
theorem hi_run : ∀ (m : Nat) (s : Bs), s.length + m ≤ 1152921504606846976 →
 iter (fun t_ : Int × Bs => Q42.l0b t_.1 t_.2) ((m : Int), s) = some (.inl ((if m < 10 then [] else dec (m / 10)) ++ s)) := fun m => by
 induction m using Nat.strongRecOn with
 | _ m ih =>
  intro s hs
  by_cases h : m < 10
  ·refine it_end ?_
   simp only [Q42.l0b]
   rw [if_neg (by omega), if_pos h]
   rfl
  ·have e : IntKind.i64.wrap (Int.tdiv (m : Int) 10) = ((m / 10 : Nat) : Int) := by
    rw [Int.tdiv_eq_ediv_of_nonneg (by omega), wrap64 (by omega) (by omega)]; omega
   have hb : Q42.l0b (m : Int) s = some (.inl (((m / 10 : Nat) : Int), dg (m / 10 % 10) :: s)) := by
    unfold Q42.l0b
    rw [if_pos (by omega), e, if_pos (by simp; omega), List.map_cons, Q202]
    rfl
   rw [it_go (body := fun t_ : Int × Bs => Q42.l0b t_.1 t_.2) hb, ih (m / 10) (by omega) _ (by simp; omega), if_neg h]
   by_cases h2 : m / 10 < 10
   ·rw [if_pos h2, Q122 h2, Nat.mod_eq_of_lt h2]; rfl
   ·rw [if_neg h2, Q142 h2, List.append_assoc]; rfl
theorem Q133 {v : Int} (h0 : 0 ≤ v) (h1 : v ≤ 1000000) : Q42.f v = some (dec v.toNat) := by
 obtain ⟨m, rfl⟩ := Int.eq_ofNat_of_zero_le h0
 unfold Q42.f
 have h := hi_run m [dg (m % 10)] (by simp; omega)
 rw [List.map_cons, Q202]
 have hl : Q42.l0 (m : Int) ([dg (m % 10)]) = _ := h
 rw [show (dg (m % 10) :: List.map byteOf []) = [dg (m % 10)] from rfl, hl, Q49]
 congr 1
 by_cases hm : m < 10
 ·rw [if_pos hm, show (m : Int).toNat = m from rfl, Q122 hm, Nat.mod_eq_of_lt hm]; rfl
 ·rw [if_neg hm, show (m : Int).toNat = m from rfl, Q142 hm]
theorem Q121 {α ρ : Type} [Inhabited α] {L : List α} (line : α → Bs) {body : Bs × Int → Option ((Bs × Int) ⊕ (Bs ⊕ ρ))} {B M : Nat} (hB : ∀ a ∈ L, (line a).length ≤ B)
 (go : ∀ acc i, 0 ≤ i → i < (L.length : Int) → acc.length ≤ M → body (acc, i) = some (.inl (acc ++ line (gt L i), i + 1)))
 (fin : ∀ acc i, ¬ i < (L.length : Int) → body (acc, i) = some (.inr (.inl acc))) (acc : Bs) (ha : acc.length + L.length * B ≤ M) :
 iter body (acc, 0) = some (.inl (acc ++ L.flatMap line)) := by
 have key : ∀ (q k : Nat) (acc : Bs), k + q = L.length → acc.length + q * B ≤ M → iter body (acc, (k : Int)) = some (.inl (acc ++ (L.drop k).flatMap line)) := fun q => by
  induction q with
  | zero =>
   intro k acc hk _
   rw [it_end (fin acc k (by omega)), List.drop_of_length_le (by omega)]
   simp
  | succ q ih =>
   intro k acc hk hm
   have hlt : (k : Int) < (L.length : Int) := by omega
   have hl := hB _ (Q47 (xs := L) (i := (k : Int)) (by omega) hlt)
   rw [Nat.add_mul, Nat.one_mul] at hm
   rw [it_go (go acc k (by omega) hlt (by omega)), show ((k : Int) + 1) = ((k + 1 : Nat) : Int) from by omega, ih (k + 1) _ (by omega) (by rw [List.length_append]; omega)]
   have hd : L.drop k = gt L (k : Int) :: L.drop (k + 1) := by
    rw [List.drop_eq_getElem_cons (by omega)]
    congr 1
    exact (Q120 (List.getElem?_eq_getElem (by omega))).symm
   rw [hd, List.flatMap_cons, List.append_assoc]
 have := key L.length 0 acc (by omega) ha
 rwa [List.drop_zero] at this
end Go.Bw
namespace Go.Bw
open Go Go.RowKit

theorem Q154 (x : Bs) : bseq x x = true := Q93.2 rfl
theorem Q134 {τ ρ : Type} {body : Int → Option (Int ⊕ (Unit ⊕ ρ))} {N : Int} (hN : N ≤ 9223372036854775807) (h1 : ∀ i, 0 ≤ i → i < N → body i = some (.inl (IntKind.i64.wrap (i + 1)))) (h2 : ∀ i, ¬ i < N → body i = some (.inr (.inl ()))) : iter body 0 = some (.inl ()) := by
 obtain ⟨r, hr, rfl⟩ := up_loop (body := body) (N := N) (Q := fun r => r = .inl ()) hN 0 (by decide) fun i hi => by
  by_cases hlt : i < N
  ·exact .inr ⟨hlt, h1 i hi hlt⟩
  ·exact .inl ⟨_, h2 i hlt, rfl⟩
 exact hr
theorem same_self (n : Int) (x : List Bs) (y : List Q0) (z : List Q1) (hx : (x.length : Int) ≤ 9223372036854775807) (hy : (y.length : Int) ≤ 9223372036854775807) (hz : (z.length : Int) ≤ 9223372036854775807) (hs : ∀ p ∈ z, (p.States.length : Int) ≤ 9223372036854775807) :
 Q15.f n x y z n x y z = some true := by
 have e0 : Q15.l0 x x 0 = some (.inl ()) := Q134 (τ := Unit) (N := x.length) hx (fun i h0 h1 => by simp only [Q15.l0b]; rw [if_pos h1, if_pos ⟨h0, h1⟩, if_pos ⟨h0, h1⟩, Q154]; rfl) (fun i h => by simp only [Q15.l0b]; rw [if_neg h]; rfl)
 have e1 : Q15.l1 y y 0 = some (.inl ()) := Q134 (τ := Unit) (N := y.length) hy (fun i h0 h1 => by simp only [Q15.l1b]; rw [if_pos h1, if_pos ⟨h0, h1⟩, if_pos ⟨h0, h1⟩]; simp [nx]) (fun i h => by simp only [Q15.l1b]; rw [if_neg h]; rfl)
 have e2 : Q15.l2 z z 0 = some (.inl ()) := Q134 (τ := Unit) (N := z.length) hz (fun i h0 h1 => by
  have e3 : Q15.l3 z z i 0 = some (.inl ()) := Q134 (τ := Unit) (N := (gt z i).States.length) (hs _ (Q47 h0 h1)) (fun j j0 j1 => by simp only [Q15.l3b]; rw [if_pos j1, if_pos ⟨j0, j1⟩, if_pos ⟨j0, j1⟩, if_pos trivial]; rfl) (fun j h => by simp only [Q15.l3b]; rw [if_neg h]; rfl)
  simp only [Q15.l2b]
  rw [if_pos h1, if_pos ⟨h0, h1⟩, if_pos ⟨h0, h1⟩, Q154, e3]
  simp [jn, nx]) (fun i h => by simp only [Q15.l2b]; rw [if_neg h]; rfl)
 unfold Q15.f
 simp [e0, e1, e2, jn]
def lentP (p : Q1) : Q6 := ⟨p.Name, p.States, [-7]⟩
theorem Q185 (z : List Q1) : (z.map lentP).map Q6.pl = z := by
 rw [List.map_map]
 exact List.map_id _
structure Fits (xs : List Bs) (ys : List Q0) (zs : List Q1) : Prop where
 x : (xs.length + 1) * 16 ≤ 140737488355328
 y : (ys.length + 1) * 24 ≤ 140737488355328
 z : zs.length * 40 ≤ 140737488355328
 s : ∀ p ∈ zs, (p.States.length + 1) * 8 ≤ 140737488355328
theorem lent_run {n : Int} {x : List Bs} {y : List Q0} {z : List Q1} (h : Fits x y z) : Q61.f n x y z = some (z.map lentP, n) := by
 have hl : Q61.l0 z [] 0 = some (.inl (z.map lentP)) := by
  obtain ⟨r, hr, rfl⟩ := Q94 (body := fun t_ : List Q6 × Int => Q61.l0b z t_.1 t_.2) (fun s => 0 ≤ s.2 ∧ s.2 ≤ (z.length : Int) ∧ s.1 = (z.take s.2.toNat).map lentP) (fun r => r = .inl (z.map lentP)) (fun s => ((z.length : Int) - s.2).toNat)
   (fun ⟨P, i⟩ ⟨h0, h1, h2⟩ => by
    dsimp only at h0 h1 h2 ⊢
    subst h2
    unfold Q61.l0b
    by_cases hi : i < (z.length : Int)
    ·right
     have hp := h.s _ (Q47 h0 hi)
     have hz := h.z
     have hlen : ((z.take i.toNat).map lentP).length + 1 ≤ z.length := by simp; omega
     rw [if_pos hi, if_pos ⟨h0, hi⟩, if_pos (by simp; omega), if_pos (by simp; omega), if_pos (by simp; omega), if_pos (by omega), wrap64 (x := i + 1) (by omega) (by omega)]
     refine ⟨_, rfl, ⟨by dsimp only; omega, by dsimp only; omega, ?_⟩, by dsimp only; omega⟩
     dsimp only
     rw [show (i + 1).toNat = i.toNat + 1 from by omega, List.take_add_one, Q102 h0 hi]
     simp [lentP]
    ·left
     rw [if_neg hi]
     refine ⟨_, rfl, ?_⟩
     rw [List.take_of_length_le (by omega)]) ([], 0) ⟨Int.le_refl _, by dsimp only; omega, by simp⟩
  exact hr
 have hx := h.x
 have hy := h.y
 unfold Q61.f
 rw [if_pos (by simp; omega), if_pos (by simp; omega), if_pos (by simp; omega), if_pos (by simp; omega), if_pos (by simp; omega), if_pos (by simp; omega), hl]
 rfl
theorem kept_run {n : Int} {x : List Bs} {y : List Q0} {z : List Q1} (h : Fits x y z) :
 ∃ a b c, Q16.f n (([] ++ x) ++ [[33]]) (x.length : Int).toNat (([] ++ y) ++ [⟨-7, 0, 0⟩]) (y.length : Int).toNat (z.map lentP) n x y z = some (a, b, c, true) := by
 have hx := h.x
 have hy := h.y
 have hz := h.z
 have hs := h.s
 have tx : (([] ++ x) ++ [([33] : Bs)]).take (x.length : Int).toNat = x := by simp
 have ty : (([] ++ y) ++ [(⟨-7, 0, 0⟩ : Q0)]).take (y.length : Int).toNat = y := by simp
 have wx : IntKind.i64.wrap ((x.length : Int) + 1) = x.length + 1 := wrap64 (by omega) (by omega)
 have wy : IntKind.i64.wrap ((y.length : Int) + 1) = y.length + 1 := wrap64 (by omega) (by omega)
 have lx : ((([] ++ x) ++ [([33] : Bs)]).length : Int) = x.length + 1 := by simp
 have ly : ((([] ++ y) ++ [(⟨-7, 0, 0⟩ : Q0)]).length : Int) = y.length + 1 := by simp
 have fx : (([] ++ x) ++ [([33] : Bs)]).take ((x.length : Int) + 1).toNat = ([] ++ x) ++ [([33] : Bs)] := List.take_of_length_le (by simp)
 have fy : (([] ++ y) ++ [(⟨-7, 0, 0⟩ : Q0)]).take ((y.length : Int) + 1).toNat = ([] ++ y) ++ [(⟨-7, 0, 0⟩ : Q0)] := List.take_of_length_le (by simp)
 have gx : gt (([] ++ x) ++ [([33] : Bs)]) (x.length : Int) = [33] := by rw [List.nil_append, Q173]
 have gy : gt (([] ++ y) ++ [(⟨-7, 0, 0⟩ : Q0)]) (y.length : Int) = ⟨-7, 0, 0⟩ := by rw [List.nil_append, Q173]
 have e1 : ∃ a, Q16.l1 (([] ++ x) ++ [[33]]) x (([] ++ x) ++ [[33]]) 0 = some (.inl a) := by
  obtain ⟨r, hr, a, rfl⟩ := Q94 (body := fun t_ : List Bs × Int => Q16.l1b (([] ++ x) ++ [[33]]) x t_.1 t_.2) (fun s => 0 ≤ s.2) (fun r => ∃ a, r = .inl a) (fun s => ((x.length : Int) + 1 - s.2).toNat) (fun ⟨a, i⟩ h0 => by
   dsimp only at h0 ⊢
   unfold Q16.l1b
   rw [wx, fx, lx]
   by_cases hi : i < (x.length : Int) + 1
   ·right
    rw [if_pos hi, if_pos ⟨h0, hi⟩, if_pos ⟨h0, hi⟩, wrap64 (x := i + 1) (by omega) (by omega)]
    exact ⟨_, rfl, by dsimp only; omega, by dsimp only; omega⟩
   ·left; rw [if_neg hi]; exact ⟨_, rfl, _, rfl⟩) (([] ++ x) ++ [[33]], 0) (Int.le_refl _)
  exact ⟨a, hr⟩
 have e2 : ∃ a, Q16.l2 (([] ++ y) ++ [⟨-7, 0, 0⟩]) y (([] ++ y) ++ [⟨-7, 0, 0⟩]) 0 = some (.inl a) := by
  obtain ⟨r, hr, a, rfl⟩ := Q94 (body := fun t_ : List Q0 × Int => Q16.l2b (([] ++ y) ++ [⟨-7, 0, 0⟩]) y t_.1 t_.2) (fun s => 0 ≤ s.2) (fun r => ∃ a, r = .inl a) (fun s => ((y.length : Int) + 1 - s.2).toNat) (fun ⟨a, i⟩ h0 => by
   dsimp only at h0 ⊢
   unfold Q16.l2b
   rw [wy, fy, ly]
   by_cases hi : i < (y.length : Int) + 1
   ·right
    rw [if_pos hi, if_pos ⟨h0, hi⟩, if_pos ⟨h0, hi⟩, wrap64 (x := i + 1) (by omega) (by omega)]
    exact ⟨_, rfl, by dsimp only; omega, by dsimp only; omega⟩
   ·left; rw [if_neg hi]; exact ⟨_, rfl, _, rfl⟩) (([] ++ y) ++ [⟨-7, 0, 0⟩], 0) (Int.le_refl _)
  exact ⟨a, hr⟩
 have e0 : ∃ a, Q16.l0 (([] ++ x) ++ [[33]]) (([] ++ y) ++ [⟨-7, 0, 0⟩]) (z.map lentP) z (z.map lentP) 0 = some (.inl a) := by
  obtain ⟨r, hr, a, rfl⟩ := Q94 (body := fun t_ : List Q6 × Int => Q16.l0b (([] ++ x) ++ [[33]]) (([] ++ y) ++ [⟨-7, 0, 0⟩]) (z.map lentP) z t_.1 t_.2)
   (fun s => 0 ≤ s.2 ∧ s.1.length = z.length ∧ ∀ j : Int, s.2 ≤ j → j < (z.length : Int) → gt s.1 j = lentP (gt z j)) (fun r => ∃ a, r = .inl a) (fun s => ((z.length : Int) - s.2).toNat) (fun ⟨P, i⟩ ⟨h0, h1, h2⟩ => by
   dsimp only at h0 h1 h2 ⊢
   unfold Q16.l0b
   by_cases hi : i < (z.length : Int)
   ·right
    have hp := hs _ (Q47 h0 hi)
    have hg := h2 i (Int.le_refl _) hi
    generalize hS : (gt z i).States = S at hp
    have h1' : (gt P i).States.1 = S := by rw [hg]; exact hS
    have h2' : (gt P i).States.2 = [-7] := by rw [hg]; rfl
    have wS : IntKind.i64.wrap ((S.length : Int) + 1) = S.length + 1 := wrap64 (by omega) (by omega)
    have tS : (S ++ [(-7 : Int)]).take ((S.length : Int) + 1).toNat = S ++ [-7] := List.take_of_length_le (by simp)
    have lS : ((S ++ [(-7 : Int)]).length : Int) = S.length + 1 := by simp
    have w1 : IntKind.i64.wrap ((S.length : Int) + 1 - 1) = S.length := by rw [wrap64 (by omega) (by omega)]; omega
    have gS : gt (S ++ [(-7 : Int)]) (S.length : Int) = -7 := Q173
    have e3 : ∃ a : List Int, Q16.l3 z P i (S ++ [-7]) 0 = some (.inl a) ∧ a.length = S.length + 1 := by
     obtain ⟨r, hr, a, rfl, ha⟩ := Q94 (body := fun t_ : List Int × Int => Q16.l3b z P i t_.1 t_.2) (fun s => 0 ≤ s.2 ∧ s.1.length = S.length + 1) (fun r => ∃ a : List Int, r = .inl a ∧ a.length = S.length + 1) (fun s => ((S.length : Int) + 1 - s.2).toNat) (fun ⟨a, j⟩ ⟨j0, j1⟩ => by
      dsimp only at j0 j1 ⊢
      unfold Q16.l3b
      rw [h1', h2', hS, wS, tS, lS]
      by_cases hj : j < (S.length : Int) + 1
      ·right
       rw [if_pos hj, if_pos ⟨j0, hj⟩, if_pos ⟨j0, hj⟩, wrap64 (x := j + 1) (by omega) (by omega)]
       exact ⟨_, rfl, ⟨by dsimp only; omega, by dsimp only; rw [st_len]; exact j1⟩, by dsimp only; omega⟩
      ·left; rw [if_neg hj]; exact ⟨_, rfl, _, rfl, j1⟩) (S ++ [-7], 0) ⟨Int.le_refl _, by simp⟩
     exact ⟨a, hr, ha⟩
    obtain ⟨a, ha, hal⟩ := e3
    have c1 : (0 : Int) ≤ (S.length : Int) + 1 ∧ (S.length : Int) + 1 ≤ (S.length : Int) + 1 := by omega
    have c2 : (0 : Int) ≤ (S.length : Int) ∧ (S.length : Int) < (S.length : Int) + 1 := by omega
    have c3 : (a.take S.length).length = ((S ++ [(-7 : Int)]).take S.length).length := by simp [hal]
    have hlP : ((z.map lentP).length : Int) = z.length := by simp
    rw [if_pos hi, hlP, if_pos ⟨h0, hi⟩, if_pos ⟨h0, hi⟩]
    simp only [h1', h2', hS, wS, tS, lS, w1, gS, if_pos c1, if_pos c2, if_true, ha, Q49, if_pos c3, wrap64 (x := i + 1) (by omega) (by omega)]
    refine ⟨_, rfl, ⟨by dsimp only; omega, by dsimp only; rw [st_len]; exact h1, fun j j0 j1 => ?_⟩, by dsimp only; omega⟩
    dsimp only at j0 ⊢
    rw [gt_st h0 (by omega) (by omega), if_neg (by omega)]
    exact h2 j (by omega) j1
   ·left; rw [if_neg hi]; exact ⟨_, rfl, _, rfl⟩) (z.map lentP, 0) ⟨Int.le_refl _, by simp, fun j j0 j1 => by
    dsimp only at j0 ⊢
    unfold gt
    rw [List.getD_eq_getElem?_getD, List.getD_eq_getElem?_getD, List.getElem?_map, List.getElem?_eq_getElem (by omega)]
    rfl⟩
  exact ⟨a, hr⟩
 obtain ⟨a0, e0⟩ := e0
 obtain ⟨a1, e1⟩ := e1
 obtain ⟨a2, e2⟩ := e2
 refine ⟨a1, a2, a0, ?_⟩
 have c1 : (0 : Int) ≤ (x.length : Int) + 1 ∧ (x.length : Int) + 1 ≤ (x.length : Int) + 1 := by omega
 have c2 : (0 : Int) ≤ (y.length : Int) + 1 ∧ (y.length : Int) + 1 ≤ (y.length : Int) + 1 := by omega
 have c3 : (0 : Int) ≤ (x.length : Int) ∧ (x.length : Int) < (x.length : Int) + 1 := by omega
 have c4 : (0 : Int) ≤ (y.length : Int) ∧ (y.length : Int) < (y.length : Int) + 1 := by omega
 unfold Q16.f
 rw [tx, ty, Q185, same_self n x y z (by omega) (by omega) (by omega) (fun p hp => by have := hs p hp; omega)]
 simp only [Option.bind_some, wx, wy, lx, ly, fx, fy, if_pos c1, if_pos c2, if_pos c3, if_pos c4, if_true, gx, gy, Q154, decide_true, Bool.not_true, Q49, Bool.false_eq_true, if_false, e0, e1, e2]
end Go.Bw
namespace Go.Bw
open Go Go.RowKit

theorem Q103 {ρ : Type} {body : Int → Option (Int ⊕ (Unit ⊕ ρ))} {N : Int} {p : Int → Prop} {bad : ρ} (hN : N ≤ 9223372036854775807) (k0 : Int) (h0 : 0 ≤ k0)
 (h : ∀ i, k0 ≤ i → i < N → (p i ∧ body i = some (.inl (IntKind.i64.wrap (i + 1)))) ∨ (¬ p i ∧ body i = some (.inr (.inr bad)))) (he : ∀ i, ¬ i < N → body i = some (.inr (.inl ()))) :
 (iter body k0 = some (.inl ()) ∧ ∀ i, k0 ≤ i → i < N → p i) ∨ (iter body k0 = some (.inr bad) ∧ ∃ i, k0 ≤ i ∧ i < N ∧ ¬ p i) := by
 obtain ⟨r, hr, hq⟩ := Q94 (body := body) (fun i => k0 ≤ i ∧ ∀ j, k0 ≤ j → j < i → p j) (fun r => (r = .inl () ∧ ∀ i, k0 ≤ i → i < N → p i) ∨ (r = .inr bad ∧ ∃ i, k0 ≤ i ∧ i < N ∧ ¬ p i)) (fun i => (N - i).toNat) (fun i ⟨h1, h2⟩ => by
  by_cases hi : i < N
  ·rcases h i h1 hi with ⟨hp, hb⟩ | ⟨hp, hb⟩
   ·right
    rw [wrap64 (by omega) (by omega)] at hb
    refine ⟨_, hb, ⟨by omega, fun j j0 j1 => ?_⟩, by omega⟩
    by_cases hj : j = i
    ·subst hj; exact hp
    ·exact h2 j j0 (by omega)
   ·left; exact ⟨_, hb, .inr ⟨rfl, i, h1, hi, hp⟩⟩
  ·left; exact ⟨_, he i hi, .inl ⟨rfl, fun j j0 j1 => h2 j j0 (by omega)⟩⟩) k0 ⟨Int.le_refl _, fun j j0 j1 => by omega⟩
 rcases hq with ⟨rfl, hq⟩ | ⟨rfl, hq⟩
 ·exact .inl ⟨hr, hq⟩
 ·exact .inr ⟨hr, hq⟩
def OkB (c : Int) : Prop := 97 ≤ c ∧ c ≤ 122 ∨ 65 ≤ c ∧ c ≤ 90 ∨ 48 ≤ c ∧ c ≤ 57 ∨ c = 95
theorem rune_run (r : Int) : ∃ b, Q63.f r = some b ∧ (b = true ↔ ¬ OkB r) := by
 obtain ⟨b, hb⟩ := rune_name r
 refine ⟨b, hb, ?_⟩
 unfold Q63.f at hb
 unfold OkB
 by_cases h1 : 97 ≤ r <;> by_cases h2 : 65 ≤ r <;> by_cases h3 : 48 ≤ r <;> simp [h1, h2, h3, jn] at hb <;> (try omega) <;>
  (by_cases h4 : r ≤ 122 <;> by_cases h5 : r ≤ 90 <;> by_cases h6 : r ≤ 57 <;> by_cases h7 : r = 95 <;> simp [h4, h5, h6, h7] at hb <;> first | omega | (subst hb; simp; omega))
theorem rune_low {s : Bs} {k : Nat} (hk : k < s.length) (h : bat s k < 128) : runeAt s k = bat s k ∧ runeLen s k = 1 := by
 have hg : ((ByteArray.mk s.toArray).get! k).toNat = (s.getD k 0).toNat := by
  simp [ByteArray.get!, List.getD_eq_getElem?_getD, hk]
 have h' : (s.getD k 0).toNat < 128 := by
  have : bat s k = ((s.getD k 0).toNat : Int) := by simp [bat]
  omega
 unfold runeAt runeLen Utf8.decode
 simp only [Nat.add_zero, hg, if_pos (show (s.getD k 0).toNat < 0x80 from h')]
 simp [bat]
theorem rune_high {s : Bs} {k : Nat} (hk : k < s.length) (h : 128 ≤ bat s k) : 128 ≤ runeAt s k := by
 have hg : ((ByteArray.mk s.toArray).get! k).toNat = (s.getD k 0).toNat := by
  simp [ByteArray.get!, List.getD_eq_getElem?_getD, hk]
 have h' : ¬ (s.getD k 0).toNat < 0x80 := by
  have : bat s k = ((s.getD k 0).toNat : Int) := by simp [bat]
  omega
 unfold runeAt Utf8.decode
 simp only [Nat.add_zero, hg, if_neg h']
 have e : (Utf8.runeError : Nat) = 65533 := rfl
 repeat' split
 all_goals try dsimp only
 all_goals first
  | omega
  | (rename_i hc; simp only [Bool.and_eq_true, decide_eq_true_eq] at hc; omega)
  | (rw [e]; omega)
theorem okB_low {c : Int} (h : OkB c) : c < 128 := by unfold OkB at h; omega
def NameS (s : Bs) : Prop := 1 ≤ s.length ∧ s.length ≤ 8 ∧ 97 ≤ bat s 0 ∧ bat s 0 ≤ 122 ∧ s ≠ [116, 116] ∧ s ≠ [102, 102] ∧ s ≠ [109, 117] ∧ s ≠ [110, 117] ∧ ∀ i : Int, 0 ≤ i → i < (s.length : Int) → OkB (bat s i)
theorem Q233 (s : Bs) : ∃ b, Q70.f s = some b ∧ (b = true ↔ ¬ ∀ i : Int, 0 ≤ i → i < (s.length : Int) → OkB (bat s i)) := by
 obtain ⟨r, hr, hq⟩ := Q94 (body := fun t_ : Nat => Q30.l0b s true t_) (fun k => ∀ i : Int, 0 ≤ i → i < (k : Int) → i < (s.length : Int) → OkB (bat s i))
  (fun r => (∃ k, r = .inl k ∧ ∀ i : Int, 0 ≤ i → i < (s.length : Int) → OkB (bat s i)) ∨ ∃ k : Nat, r = .inr (k : Int) ∧ ¬ ∀ i : Int, 0 ≤ i → i < (s.length : Int) → OkB (bat s i)) (fun k => s.length - k) (fun k hI => by
   unfold Q30.l0b
   by_cases hk : k < s.length
   ·obtain ⟨b, hb, hb2⟩ := rune_run (runeAt s k)
    rw [if_pos hk, hb]
    simp only [Option.bind_some]
    by_cases hl : bat s k < 128
    ·obtain ⟨e1, e2⟩ := rune_low hk hl
     rw [e1] at hb2
     rw [e2]
     cases b with
     | true =>
      left
      refine ⟨_, rfl, .inr ⟨k, rfl, fun hall => hb2.1 rfl (hall k (by omega) (by omega))⟩⟩
     | false =>
      right
      have hok : OkB (bat s k) := Classical.not_not.1 fun h => by have := hb2.2 h; cases this
      refine ⟨_, rfl, fun i i0 i1 i2 => ?_, by omega⟩
      by_cases hi : i = (k : Int)
      ·subst hi; exact hok
      ·exact hI i i0 (by omega) i2
    ·have hh := rune_high hk (by omega)
     have hbt : b = true := hb2.2 fun h => by have := okB_low h; omega
     subst hbt
     left
     exact ⟨_, rfl, .inr ⟨k, rfl, fun hall => by have := okB_low (hall k (by omega) (by omega)); omega⟩⟩
   ·left; rw [if_neg hk]; exact ⟨_, rfl, .inl ⟨k, rfl, fun i i0 i1 => hI i i0 (by omega) i1⟩⟩) 0 (fun i i0 i1 => by omega)
 unfold Q70.f Q73.f Q30.f Q30.l0
 rw [hr]
 rcases hq with ⟨k, rfl, hq⟩ | ⟨k, rfl, hq⟩
 ·exact ⟨false, rfl, by simp; exact hq⟩
 ·exact ⟨true, by simp [jn], by simp only [true_iff]; exact hq⟩
end Go.Bw
namespace Go.Bw
open Go Go.RowKit

theorem Q130 {x : Option (Unit ⊕ Bool)} {p : Prop} (h : (x = some (.inl ()) ∧ p) ∨ (x = some (.inr false) ∧ ¬ p)) : ∃ b, jn x (fun _ => some true) = some b ∧ (b = true ↔ p) := by
 rcases h with ⟨rfl, h⟩ | ⟨rfl, h⟩
 ·exact ⟨true, rfl, by simp [h]⟩
 ·exact ⟨false, rfl, by simp [h]⟩
theorem Q212 (s : Bs) : ∃ b, Q44.f s = some b ∧ (b = true ↔ NameS s) := by
 obtain ⟨c, hc, hc2⟩ := Q233 s
 unfold Q44.f NameS
 by_cases h1 : (s.length : Int) < 1
 ·exact ⟨false, by simp [h1, jn], by simp; omega⟩
 by_cases h2 : 8 < (s.length : Int)
 ·exact ⟨false, by simp [h1, h2, jn], by simp; omega⟩
 have h0 : (0 : Int) ≤ 0 ∧ 0 < (s.length : Int) := by omega
 simp only [if_neg h1, Q49, decide_eq_false h2, Bool.false_eq_true, if_false, if_pos h0]
 by_cases h3 : bat s 0 < 97
 ·exact ⟨false, by simp [h3, jn], by simp; omega⟩
 by_cases h4 : 122 < bat s 0
 ·exact ⟨false, by simp [h3, h4, jn], by simp; omega⟩
 simp only [decide_eq_false h3, decide_eq_false h4, Bool.false_eq_true, if_false, Q49, Q93, hc, Option.bind_some]
 by_cases k1 : s = [116, 116]
 ·exact ⟨false, by simp [k1], by simp [k1]⟩
 by_cases k2 : s = [102, 102]
 ·exact ⟨false, by simp [k2], by simp [k2]⟩
 by_cases k3 : s = [109, 117]
 ·exact ⟨false, by simp [k3], by simp [k3]⟩
 by_cases k4 : s = [110, 117]
 ·exact ⟨false, by simp [k4], by simp [k4]⟩
 refine ⟨!c, by simp [k1, k2, k3, k4], ?_⟩
 have hc3 : (!c) = true ↔ ∀ i : Int, 0 ≤ i → i < (s.length : Int) → OkB (bat s i) := by
  cases c with
  | true => simp only [Bool.not_true, Bool.false_eq_true, false_iff]; exact hc2.1 rfl
  | false =>
   simp only [Bool.not_false, true_iff]
   exact Classical.not_not.1 fun h => by have := hc2.2 h; cases this
 rw [hc3]
 exact ⟨fun h => ⟨by omega, by omega, by omega, by omega, k1, k2, k3, k4, h⟩, fun h => h.2.2.2.2.2.2.2.2⟩
theorem Q243 (s : Bs) (hs : s.length ≤ 8) : (Q54.l0 s 0 = some (.inl ()) ∧ ∀ i : Int, 0 ≤ i → i < (s.length : Int) → OkB (bat s i)) ∨ (Q54.l0 s 0 = some (.inr false) ∧ ∃ i : Int, 0 ≤ i ∧ i < (s.length : Int) ∧ ¬ OkB (bat s i)) := by
 refine Q103 (body := fun t_ : Int => Q54.l0b s t_) (N := s.length) (p := fun i => OkB (bat s i)) (by omega) 0 (by decide) (fun i h0 h1 => ?_) (fun i h => by simp only [Q54.l0b]; rw [if_neg h]; rfl)
 simp only [Q54.l0b]
 rw [if_pos h1, if_pos ⟨h0, h1⟩]
 generalize bat s i = c
 unfold OkB
 by_cases a1 : 97 ≤ c <;> by_cases a2 : 65 ≤ c <;> by_cases a3 : 48 ≤ c <;> simp [a1, a2, a3, jn, nx, upL] <;> (try omega) <;>
  (by_cases h4 : c ≤ 122 <;> by_cases h5 : c ≤ 90 <;> by_cases h6 : c ≤ 57 <;> by_cases h7 : c = 95 <;> simp [h4, h5, h6, h7] <;> omega)
theorem Q230 (s : Bs) : ∃ b, Q54.f s = some b ∧ (b = true ↔ NameS s) := by
 unfold Q54.f NameS
 by_cases h1 : (s.length : Int) < 1
 ·exact ⟨false, by simp [h1, jn], by simp; omega⟩
 by_cases h2 : 8 < (s.length : Int)
 ·exact ⟨false, by simp [h1, h2, jn], by simp; omega⟩
 have h0 : (0 : Int) ≤ 0 ∧ 0 < (s.length : Int) := by omega
 simp only [if_neg h1, Q49, decide_eq_false h2, Bool.false_eq_true, if_false, if_pos h0]
 by_cases h3 : bat s 0 < 97
 ·exact ⟨false, by simp [h3, jn], by simp; omega⟩
 by_cases h4 : 122 < bat s 0
 ·exact ⟨false, by simp [h3, h4, jn], by simp; omega⟩
 have bz : ∀ t : Bs, s ≠ t → bseq s t = false := fun t h => Bool.eq_false_iff.2 fun hc => h (Q93.1 hc)
 by_cases k1 : s = [116, 116]
 ·exact ⟨false, by rw [Q93.2 k1]; simp [h3, h4, jn], by simp [k1]⟩
 by_cases k2 : s = [102, 102]
 ·exact ⟨false, by rw [bz _ k1, Q93.2 k2]; simp [h3, h4, jn], by simp [k2]⟩
 by_cases k3 : s = [109, 117]
 ·exact ⟨false, by rw [bz _ k1, bz _ k2, Q93.2 k3]; simp [h3, h4, jn], by simp [k3]⟩
 by_cases k4 : s = [110, 117]
 ·exact ⟨false, by rw [bz _ k1, bz _ k2, bz _ k3, Q93.2 k4]; simp [h3, h4, jn], by simp [k4]⟩
 rw [bz _ k1, bz _ k2, bz _ k3, bz _ k4]
 simp only [decide_eq_false h3, decide_eq_false h4, Bool.false_eq_true, if_false, Q49]
 rcases Q243 s (by omega) with ⟨hl, hq⟩ | ⟨hl, i, i0, i1, i2⟩
 ·exact ⟨true, by rw [hl]; rfl, by simp only [true_iff]; exact ⟨by omega, by omega, by omega, by omega, k1, k2, k3, k4, hq⟩⟩
 ·exact ⟨false, by rw [hl]; rfl, by simp only [Bool.false_eq_true, false_iff]; exact fun h => i2 (h.2.2.2.2.2.2.2.2 i i0 i1)⟩
def Rise {α : Type} [Inhabited α] (lt : α → α → Prop) (a : List α) : Prop := ∀ i : Int, 1 ≤ i → i < (a.length : Int) → lt (gt a (i - 1)) (gt a i)
theorem Q249 (a : List Int) (ha : (a.length : Int) ≤ 9223372036854775807) : ∃ b, Q25.f a = some b ∧ (b = true ↔ Rise (· < ·) a) := by
 refine Q130 ?_
 rcases Q103 (body := fun t_ : Int => Q25.l0b a t_) (N := a.length) (p := fun i => gt a (i - 1) < gt a i) (bad := false) ha 1 (by decide) (fun i h0 h1 => by
  simp only [Q25.l0b]
  rw [if_pos h1, wrap64 (x := i - 1) (by omega) (by omega), if_pos (by omega), if_pos (by omega), Q200]
  simp only [Option.bind_some]
  by_cases hp : gt a (i - 1) < gt a i
  ·left; rw [if_neg (by have := Q126.2 hp; omega)]; exact ⟨hp, rfl⟩
  ·right; rw [if_pos (by have : ¬ cmp3 (gt a (i - 1)) (gt a i) < 0 := fun h => hp (Q126.1 h); omega)]; exact ⟨hp, rfl⟩) (fun i h => by simp only [Q25.l0b]; rw [if_neg h]; rfl) with ⟨h, q⟩ | ⟨h, i, i0, i1, i2⟩
 ·exact .inl ⟨h, q⟩
 ·exact .inr ⟨h, fun hr => i2 (hr i i0 i1)⟩
def BLt (x y : Bs) : Prop := Lib.compareBytes x y < 0
theorem Q251 (a : List Bs) (ha : (a.length : Int) ≤ 9223372036854775807) : ∃ b, Q29.f a = some b ∧ (b = true ↔ Rise BLt a) := by
 refine Q130 ?_
 rcases Q103 (body := fun t_ : Int => Q29.l0b a t_) (N := a.length) (p := fun i => BLt (gt a (i - 1)) (gt a i)) (bad := false) ha 1 (by decide) (fun i h0 h1 => by
  simp only [Q29.l0b]
  rw [if_pos h1, wrap64 (x := i - 1) (by omega) (by omega), if_pos (by omega), if_pos (by omega)]
  simp only [Q53.f, Q69.f, Option.bind_some]
  by_cases hp : BLt (gt a (i - 1)) (gt a i)
  ·left; rw [if_neg (by unfold BLt at hp; omega)]; exact ⟨hp, rfl⟩
  ·right; rw [if_pos (by unfold BLt at hp; omega)]; exact ⟨hp, rfl⟩) (fun i h => by simp only [Q29.l0b]; rw [if_neg h]; rfl) with ⟨h, q⟩ | ⟨h, i, i0, i1, i2⟩
 ·exact .inl ⟨h, q⟩
 ·exact .inr ⟨h, fun hr => i2 (hr i i0 i1)⟩
theorem Q238 (a : List Q1) (ha : (a.length : Int) ≤ 9223372036854775807) : ∃ b, Q27.f a = some b ∧ (b = true ↔ Rise (fun p q => BLt p.Name q.Name) a) := by
 refine Q130 ?_
 rcases Q103 (body := fun t_ : Int => Q27.l0b a t_) (N := a.length) (p := fun i => BLt (gt a (i - 1)).Name (gt a i).Name) (bad := false) ha 1 (by decide) (fun i h0 h1 => by
  simp only [Q27.l0b]
  rw [if_pos h1, wrap64 (x := i - 1) (by omega) (by omega), if_pos (by omega), if_pos (by omega)]
  simp only [Q65.f, Q53.f, Q69.f, Option.bind_some]
  by_cases hp : BLt (gt a (i - 1)).Name (gt a i).Name
  ·left; rw [if_neg (by unfold BLt at hp; omega)]; exact ⟨hp, rfl⟩
  ·right; rw [if_pos (by unfold BLt at hp; omega)]; exact ⟨hp, rfl⟩) (fun i h => by simp only [Q27.l0b]; rw [if_neg h]; rfl) with ⟨h, q⟩ | ⟨h, i, i0, i1, i2⟩
 ·exact .inl ⟨h, q⟩
 ·exact .inr ⟨h, fun hr => i2 (hr i i0 i1)⟩
theorem Q252 (a : List Q0) (ha : (a.length : Int) ≤ 9223372036854775807) : ∃ b, Q28.f a = some b ∧ (b = true ↔ Rise edgeLt a) := by
 refine Q130 ?_
 rcases Q103 (body := fun t_ : Int => Q28.l0b a t_) (N := a.length) (p := fun i => edgeLt (gt a (i - 1)) (gt a i)) (bad := false) ha 1 (by decide) (fun i h0 h1 => by
  simp only [Q28.l0b]
  rw [if_pos h1, wrap64 (x := i - 1) (by omega) (by omega), if_pos (by omega), if_pos (by omega), Q186]
  simp only [Option.bind_some]
  by_cases hp : edgeLt (gt a (i - 1)) (gt a i)
  ·left; rw [if_neg (by have := Q159.2 hp; omega)]; exact ⟨hp, rfl⟩
  ·right; rw [if_pos (by have : ¬ edgeCmp (gt a (i - 1)) (gt a i) < 0 := fun h => hp (Q159.1 h); omega)]; exact ⟨hp, rfl⟩) (fun i h => by simp only [Q28.l0b]; rw [if_neg h]; rfl) with ⟨h, q⟩ | ⟨h, i, i0, i1, i2⟩
 ·exact .inl ⟨h, q⟩
 ·exact .inr ⟨h, fun hr => i2 (hr i i0 i1)⟩
end Go.Bw
namespace Go.Bw
open Go Go.RowKit

theorem less_cb : ∀ (x y : Bs), Op.bytesLess x y = true ↔ BLt x y
 | [], [] => by simp [Op.bytesLess, BLt, Lib.compareBytes]
 | [], _ :: _ => by simp [Op.bytesLess, BLt, Lib.compareBytes]
 | _ :: _, [] => by simp [Op.bytesLess, BLt, Lib.compareBytes]
 | a :: x, b :: y => by
  have ih := less_cb x y
  unfold BLt at ih
  unfold Op.bytesLess BLt Lib.compareBytes
  by_cases h1 : a < b
  ·simp [h1]
  ·by_cases h2 : b < a
   ·have : a ≠ b := fun h => by subst h; exact UInt8.lt_irrefl a h2
    simp [h1, h2, this]
   ·have : a = b := UInt8.le_antisymm (UInt8.not_lt.1 h2) (UInt8.not_lt.1 h1)
    subst this
    simp [h1, ih]
theorem Q218 {x y : Bs} : bslt x y = true ↔ BLt x y := by
 unfold bslt slt
 rw [Q149, Q149]
 exact less_cb x y
theorem Q184 (a : List Bs) (ha : (a.length : Int) ≤ 9223372036854775807) : ∃ b, Q55.f a = some b ∧ (b = true ↔ (∀ s ∈ a, NameS s) ∧ Rise BLt a) := by
 refine Q130 ?_
 have key := Q103 (body := fun t_ : Int => Q55.l0b a t_) (N := a.length) (p := fun i => NameS (gt a i) ∧ (0 < i → BLt (gt a (i - 1)) (gt a i))) (bad := false) ha 0 (by decide) (fun i h0 h1 => by
  simp only [Q55.l0b]
  obtain ⟨b, hb, hb2⟩ := Q230 (gt a i)
  rw [if_pos h1, if_pos ⟨h0, h1⟩, hb]
  simp only [Option.bind_some]
  cases b with
  | false => right; exact ⟨fun h => (by have := hb2.2 h.1; cases this), by simp [jn, upL]⟩
  | true =>
   have hn := hb2.1 rfl
   by_cases hi : 0 < i
   ·rw [wrap64 (x := i - 1) (by omega) (by omega)]
    have hc : (0 : Int) ≤ i - 1 ∧ i - 1 < (a.length : Int) := by omega
    have hi' : 1 ≤ i := by omega
    by_cases hl : BLt (gt a (i - 1)) (gt a i)
    ·left; refine ⟨⟨hn, fun _ => hl⟩, ?_⟩
     simp [hi, hi', hc, Q218.2 hl, jn, nx]
    ·right; refine ⟨fun h => hl (h.2 hi), ?_⟩
     have : bslt (gt a (i - 1)) (gt a i) = false := Bool.eq_false_iff.2 fun h => hl (Q218.1 h)
     simp [hi, hi', hc, this, jn, upL]
   ·left; refine ⟨⟨hn, fun h => absurd h hi⟩, ?_⟩
    simp [hi, jn, nx]) (fun i h => by simp only [Q55.l0b]; rw [if_neg h]; rfl)
 have hiff : (∀ i : Int, 0 ≤ i → i < (a.length : Int) → NameS (gt a i) ∧ (0 < i → BLt (gt a (i - 1)) (gt a i))) ↔ (∀ s ∈ a, NameS s) ∧ Rise BLt a := by
  constructor
  ·intro h
   refine ⟨fun s hs => ?_, fun i i0 i1 => (h i (by omega) i1).2 (by omega)⟩
   obtain ⟨k, hk, rfl⟩ := List.getElem_of_mem hs
   have := (h k (by omega) (by omega)).1
   rwa [Q120 (List.getElem?_eq_getElem hk)] at this
  ·rintro ⟨h1, h2⟩ i i0 i1
   exact ⟨h1 _ (Q47 i0 i1), fun h => h2 i (by omega) i1⟩
 rcases key with ⟨h, q⟩ | ⟨h, i, i0, i1, i2⟩
 ·exact .inl ⟨h, hiff.1 q⟩
 ·exact .inr ⟨h, fun hr => i2 (hiff.2 hr i i0 i1)⟩
theorem names_iff (a : List Bs) (ha : (a.length : Int) ≤ 9223372036854775807) : ∃ b, Q68.f a = some b ∧ (b = true ↔ ¬ ∀ s ∈ a, NameS s) := by
 -- all that is passed is a name
 have key := Q94 (body := fun t_ : Int => Q26.l0b a t_) (fun i => 0 ≤ i ∧ ∀ j : Int, 0 ≤ j → j < i → j < (a.length : Int) → NameS (gt a j)) (fun r => r = .inl () ∧ (∀ s ∈ a, NameS s) ∨ ∃ k : Int, 0 ≤ k ∧ r = .inr k ∧ ¬ ∀ s ∈ a, NameS s) (fun i => ((a.length : Int) - i).toNat) (fun i ⟨h0, h2⟩ => by
  unfold Q26.l0b Q72.f
  by_cases h1 : i < (a.length : Int)
  ·obtain ⟨c, hc, hc2⟩ := Q212 (gt a i)
   rw [if_pos h1, if_pos ⟨h0, h1⟩, hc]
   simp only [Option.bind_some]
   cases c with
   | true =>
    right
    rw [wrap64 (x := i + 1) (by omega) (by omega)]
    refine ⟨_, rfl, ⟨by omega, fun j j0 j1 j2 => ?_⟩, by omega⟩
    by_cases hj : j = i
    ·subst hj; exact hc2.1 rfl
    ·exact h2 j j0 (by omega) j2
   | false => left; exact ⟨_, rfl, .inr ⟨i, h0, rfl, fun h => by have := hc2.2 (h _ (Q47 h0 h1)); cases this⟩⟩
  ·left; rw [if_neg h1]
   refine ⟨_, rfl, .inl ⟨rfl, fun s hs => ?_⟩⟩
   obtain ⟨k, hk, rfl⟩ := List.getElem_of_mem hs
   have := h2 k (by omega) (by omega) (by omega)
   rwa [Q120 (List.getElem?_eq_getElem hk)] at this) 0 ⟨Int.le_refl _, fun j j0 j1 => by omega⟩
 obtain ⟨r', hr', hq'⟩ := key
 unfold Q68.f Q26.f Q26.l0
 rw [hr']
 rcases hq' with ⟨rfl, h⟩ | ⟨k, k0, rfl, h⟩
 ·exact ⟨false, rfl, by simp; exact h⟩
 ·exact ⟨true, by simp [jn, k0], by simp only [true_iff]; exact h⟩
def StatesS (n : Int) (a : List Int) : Prop := (∀ s ∈ a, 0 ≤ s ∧ s < n) ∧ Rise (· < ·) a
theorem inS_iff (a : List Int) (n : Int) (x : List Bs) (y : List Q0) (z : List Q1) (ha : (a.length : Int) ≤ 9223372036854775807) : ∃ b, Q67.f a n x y z = some b ∧ (b = true ↔ ¬ ∀ s ∈ a, 0 ≤ s ∧ s < n) := by
 have key := Q94 (body := fun t_ : Int => Q24.l0b a n x y z t_) (fun i => 0 ≤ i ∧ ∀ j : Int, 0 ≤ j → j < i → j < (a.length : Int) → 0 ≤ gt a j ∧ gt a j < n) (fun r => r = .inl () ∧ (∀ s ∈ a, 0 ≤ s ∧ s < n) ∨ ∃ k : Int, 0 ≤ k ∧ r = .inr k ∧ ¬ ∀ s ∈ a, 0 ≤ s ∧ s < n) (fun i => ((a.length : Int) - i).toNat) (fun i ⟨h0, h2⟩ => by
  unfold Q24.l0b Q71.f
  by_cases h1 : i < (a.length : Int)
  ·rw [if_pos h1, if_pos ⟨h0, h1⟩, in_run]
   simp only [Option.bind_some]
   by_cases hp : 0 ≤ gt a i ∧ gt a i < n
   ·right
    rw [wrap64 (x := i + 1) (by omega) (by omega)]
    refine ⟨i + 1, by simp [hp, nx], ⟨by omega, fun j j0 j1 j2 => ?_⟩, by omega⟩
    by_cases hj : j = i
    ·subst hj; exact hp
    ·exact h2 j j0 (by omega) j2
   ·left; exact ⟨.inr i, by simp [hp, upL], .inr ⟨i, h0, rfl, fun h => hp (h _ (Q47 h0 h1))⟩⟩
  ·left; rw [if_neg h1]
   refine ⟨_, rfl, .inl ⟨rfl, fun s hs => ?_⟩⟩
   obtain ⟨k, hk, rfl⟩ := List.getElem_of_mem hs
   have := h2 k (by omega) (by omega) (by omega)
   rwa [Q120 (List.getElem?_eq_getElem hk)] at this) 0 ⟨Int.le_refl _, fun j j0 j1 => by omega⟩
 obtain ⟨r', hr', hq'⟩ := key
 unfold Q67.f Q24.f Q24.l0
 rw [hr']
 rcases hq' with ⟨rfl, h⟩ | ⟨k, k0, rfl, h⟩
 ·exact ⟨false, rfl, by simp; exact h⟩
 ·exact ⟨true, by simp [jn, k0], by simp only [true_iff]; exact h⟩
end Go.Bw
