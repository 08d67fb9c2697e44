/- BisimOnce, part 7: walks and plain laws. Conditions: none. -/
import Derived.Test.YtbkooifhcekpmaaGreatDoorProg
import Derived.Deep.QuietTactic
import Derived.Test.YtbkooifhcekpmaaGreatDoorRows
import Derived.LaidMore
import Derived.ProofKit
import Derived.OpenShut
import Derived.Stop.Joined
import Derived.Test.YtbkooifhcekpmaaGreatDoorBwBisimOnceF
set_option linter.unusedVariables false
set_option linter.unusedSimpArgs false
set_option linter.unusedSectionVars false
set_option maxRecDepth 100000
set_option maxHeartbeats 2000000
namespace Go.Bw
open Go Go.RowKit Go.Proofs Go.Sort

theorem edge_tri : ∀ u v : Q0, ¬ edgeLt u v → ¬ edgeLt v u → u = v := fun u v h1 h2 => by
 unfold edgeLt at h1 h2
 cases u
 cases v
 simp only [Q0.mk.injEq] at *
 omega
open Classical in
theorem sort2_run {xs : List Q0} (hl : xs.length ≤ 1000000) (h : ∀ e ∈ xs, Small e) : ∃ L, Q53.f xs = some L ∧ L.Perm xs ∧ L.Pairwise (fun u v => ¬ edgeLt v u) := by
 have hmap : (xs.attachWith Small h).map (·.1) = xs := by simp
 let le2 : Q0 → Q0 → Bool := fun u v => !decide (edgeLt v u)
 obtain ⟨s1, hs1⟩ : ∃ s1 : Q0 → Q0 → Bool, s1 = fun u v => !(ltOf (gcf Q53.cmp)) v u := ⟨_, rfl⟩
 obtain ⟨s2, hs2⟩ : ∃ s2 : Q0 → Q0 → Bool, s2 = le2 := ⟨_, rfl⟩
 have hle : (fun u v : {e // Small e} => s1 u.1 v.1) = fun u v => s2 u.1 v.1 := by
  funext u v
  have hd := Q157 v.2 u.2
  rw [hs1, hs2]
  show (!(decide ((Q53.cmp v.1 u.1).getD 0 < 0))) = !decide (edgeLt v.1 u.1)
  rw [hd]
  simp [diff_lt]
 have e1 := List.map_mergeSort (f := fun e : {e // Small e} => e.1) (r := fun u v => s1 u.1 v.1) (s := s1) (l := xs.attachWith Small h) (fun a _ b _ => rfl)
 have e2 := List.map_mergeSort (f := fun e : {e // Small e} => e.1) (r := fun u v => s2 u.1 v.1) (s := s2) (l := xs.attachWith Small h) (fun a _ b _ => rfl)
 rw [hle, hmap] at e1
 rw [hmap] at e2
 have e3 : byCmp Q53.cmp xs = xs.mergeSort le2 := by
  have e4 : byCmp Q53.cmp xs = xs.mergeSort s1 := by rw [hs1]; rfl
  rw [e4, ← e1, e2, hs2]
 refine ⟨xs.mergeSort le2, ?_, List.mergeSort_perm _ _, ?_⟩
 ·unfold Q53.f
  rw [if_pos ⟨by omega, diff_on h⟩, e3]
 ·have := List.pairwise_mergeSort (le := le2) (fun a b c h1 h2 => by
   simp only [le2, Bool.not_eq_true', decide_eq_false_iff_not] at *
   unfold edgeLt at *
   omega) (fun a b => by
   simp only [le2, Bool.or_eq_true, Bool.not_eq_true', decide_eq_false_iff_not]
   unfold edgeLt
   omega) xs
  exact this.imp fun {u v} q => by simpa [le2] using q
theorem max_run {c : List Int} (hl : 1 ≤ c.length) (hl2 : (c.length : Int) ≤ 1000000) : ∃ M, Q29.f c = some M ∧ M ∈ c ∧ ∀ v ∈ c, v ≤ M := by
 obtain ⟨r, hr, M, rfl, h1, h2⟩ := Q70 (body := fun t_ : Int × Int => Q29.l0b c t_.1 t_.2) (fun s => 1 ≤ s.2 ∧ s.2 ≤ (c.length : Int) ∧ s.1 ∈ c ∧ ∀ j : Int, 0 ≤ j → j < s.2 → gt c j ≤ s.1)
  (fun r => ∃ M, r = .inl M ∧ M ∈ c ∧ ∀ v ∈ c, v ≤ M) (fun s => ((c.length : Int) - s.2).toNat) (fun ⟨M, i⟩ ⟨i0, i1, hm, hj⟩ => by
   dsimp only at i0 i1 hm hj ⊢
   simp only [Q29.l0b]
   by_cases hi : i < (c.length : Int)
   ·right
    rw [if_pos hi, if_pos ⟨by omega, hi⟩, wrap64 (x := i + 1) (by omega) (by omega)]
    refine ⟨_, rfl, ⟨by dsimp only; omega, by dsimp only; omega, ?_, fun j j0 j1 => ?_⟩, by dsimp only; omega⟩
    ·dsimp only
     split
     ·exact Q80 (by omega) hi
     ·exact hm
    ·dsimp only at j1 ⊢
     by_cases hji : j = i
     ·subst hji; split <;> omega
     ·have := hj j j0 (by omega)
      split <;> omega
   ·left
    rw [if_neg hi]
    refine ⟨_, rfl, M, rfl, hm, fun v hv => ?_⟩
    obtain ⟨q, hq, rfl⟩ := List.getElem_of_mem hv
    have := hj q (by omega) (by omega)
    rwa [Q103 (List.getElem?_eq_getElem hq)] at this) (gt c 0, 1) ⟨by dsimp only; omega, by dsimp only; omega, Q80 (by decide) (by omega), fun j j0 j1 => by
    dsimp only at j1 ⊢
    rw [show j = 0 from by omega]
    exact Int.le_refl _⟩
 refine ⟨M, ?_, h1, h2⟩
 unfold Q29.f
 have hl0 : Q29.l0 c (gt c 0) 1 = some (.inl M) := hr
 rw [if_neg (by omega), if_pos ⟨by decide, by omega⟩, hl0, Q25]
def qE (c : List Int) (e : Q0) : Q0 := ⟨gt c e.From, e.Action, gt c e.To⟩
def qW (c : List Int) (S : List Int) : W4 := S.foldl (fun u t => putc u (gt c t)) W4.z
def qP (c : List Int) (p : Q1) : Q1 := ⟨p.Name, (qW c p.States).list⟩
section
variable {n : Int} {x : List Bs} {y : List Q0} {z : List Q1}
theorem q2_run (R : RightS n x y z) {c : List Int} (hl : (c.length : Int) = n) {i : Int} (i0 : 0 ≤ i) (i1 : i < (z.length : Int)) :
 Q11.l2 z c i 0 0 0 0 0 = some (.inl (qW c (gt z i).States).t) := by
 have hP := (R.pr _ (Q80 i0 i1)).2
 have hfew := Q240 R.n1 hP
 have key : ∀ (q k : Nat), k + q = (gt z i).States.length → iter (fun t_ : Int × Int × Int × Int × Int => Q11.l2b z c i t_.1 t_.2.1 t_.2.2.1 t_.2.2.2.1 t_.2.2.2.2)
  (Wd (qW c ((gt z i).States.take k)).a, Wd (qW c ((gt z i).States.take k)).b, Wd (qW c ((gt z i).States.take k)).c, Wd (qW c ((gt z i).States.take k)).d, (k : Int)) = some (.inl (qW c (gt z i).States).t) := fun q => by
  induction q with
  | zero =>
   intro k hk
   refine Q127 ?_
   simp only [Q11.l2b]
   rw [if_neg (by omega), List.take_of_length_le (by omega)]
   rfl
  | succ q ih =>
   intro k hk
   have hlt : (k : Int) < ((gt z i).States.length : Int) := by omega
   have hm := hP.1 _ (Q80 (xs := (gt z i).States) (i := (k : Int)) (by omega) hlt)
   have hs : qW c ((gt z i).States.take (k + 1)) = putc (qW c ((gt z i).States.take k)) (gt c (gt (gt z i).States (k : Int))) := by
    unfold qW
    have := Q69 (xs := (gt z i).States) (i := (k : Int)) (by omega) hlt
    rw [List.take_add_one, show ((k : Int).toNat) = k from by omega] at *
    rw [this]
    simp [List.foldl_append]
   have hb : Q11.l2b z c i (Wd (qW c ((gt z i).States.take k)).a) (Wd (qW c ((gt z i).States.take k)).b) (Wd (qW c ((gt z i).States.take k)).c) (Wd (qW c ((gt z i).States.take k)).d) (k : Int) = some (.inl (Wd (qW c ((gt z i).States.take (k + 1))).a, Wd (qW c ((gt z i).States.take (k + 1))).b, Wd (qW c ((gt z i).States.take (k + 1))).c, Wd (qW c ((gt z i).States.take (k + 1))).d, ((k + 1 : Nat) : Int))) := by
    simp only [Q11.l2b]
    rw [if_pos hlt, if_pos ⟨by omega, hlt⟩, if_pos ⟨by omega, by omega⟩, Q110, Option.bind_some, wrap64 (x := (k : Int) + 1) (by omega) (by omega), hs]
    rfl
   rw [Q129 (body := fun t_ : Int × Int × Int × Int × Int => Q11.l2b z c i t_.1 t_.2.1 t_.2.2.1 t_.2.2.2.1 t_.2.2.2.2) hb]
   exact ih (k + 1) (by omega)
 have := key (gt z i).States.length 0 (by omega)
 exact this
theorem q1_run (R : RightS n x y z) {c : List Int} (hl : (c.length : Int) = n) : Q11.l1 z c [] 0 = some (.inl (z.map (qP c))) := by
 have nz := R.nz
 have h := Q206 (L := z) (β := Q1) (ρ := (List Q1) × (List Q0) × (List Bs) × (List Int) × Int) (qP c) (body := fun t_ : (List Q1) × Int => Q11.l1b z c t_.1 t_.2) (by omega) [] (fun a i i0 i1 ha => by
  simp only [Q11.l1b]
  rw [if_pos i1, if_pos ⟨i0, i1⟩, q2_run R hl i0 i1, Q25]
  simp only [W4.t, Q242, Option.bind_some]
  rw [if_pos (by simp at ha; omega), wrap64 (x := i + 1) (by omega) (by omega)]
  rfl) (fun a i hi => by simp only [Q11.l1b]; rw [if_neg hi]; rfl)
 rw [List.nil_append] at h
 exact h
theorem q0_run (R : RightS n x y z) {c : List Int} (hl : (c.length : Int) = n) : Q11.l0 y c [] 0 = some (.inl (y.map (qE c))) := by
 have ny := R.ny
 have h := Q206 (L := y) (β := Q0) (ρ := (List Q1) × (List Q0) × (List Bs) × (List Int) × Int) (qE c) (body := fun t_ : (List Q0) × Int => Q11.l0b y c t_.1 t_.2) (by omega) [] (fun a i i0 i1 ha => by
  have hE := R.ed _ (Q80 i0 i1)
  unfold EdgeIn at hE
  simp only [Q11.l0b]
  rw [if_pos i1, if_pos ⟨i0, i1⟩, if_pos ⟨by omega, by omega⟩, if_pos ⟨by omega, by omega⟩, if_pos (by simp; simp at ha; omega), wrap64 (x := i + 1) (by omega) (by omega)]
  rfl) (fun a i hi => by simp only [Q11.l0b]; rw [if_neg hi]; rfl)
 rw [List.nil_append] at h
 exact h
theorem Q258 (R : RightS n x y z) {c : List Int} (hc : Q26.f n x y z = some c) (C : Cls n (Hs z) (Es x y) c) :
 ∃ M y', Q11.f n x y z = some (z.map (qP c), y', x, c, M + 1) ∧ (0 ≤ M ∧ M < n) ∧ M ∈ c ∧ (∀ v ∈ c, 0 ≤ v ∧ v ≤ M) ∧ y'.Pairwise edgeLt ∧ (∀ e, e ∈ y' ↔ e ∈ y.map (qE c)) ∧ y'.length ≤ y.length := by
 have n0 := R.n0
 have n1 := R.n1
 have nx := R.nx
 have hl := C.len
 have hcan := Q243 C.canon
 obtain ⟨M, hM, hM1, hM2⟩ := max_run (c := c) (by omega) (by omega)
 have hv : ∀ v ∈ c, 0 ≤ v ∧ v < n := fun v hv => by
  obtain ⟨q, hq, rfl⟩ := List.getElem_of_mem hv
  have := hcan q (by omega) (by omega)
  rw [Q103 (List.getElem?_eq_getElem hq)] at this
  omega
 have hMn := hv M hM1
 obtain ⟨L, hL, hp, hso⟩ := sort2_run (xs := y.map (qE c)) (by rw [List.length_map]; have := R.ny; omega) (fun e he => by
  obtain ⟨e0, he0, rfl⟩ := List.mem_map.1 he
  have hE := R.ed e0 he0
  unfold EdgeIn at hE
  have h1 := hcan e0.From (by omega) (by omega)
  have h2 := hcan e0.To (by omega) (by omega)
  unfold Small qE
  dsimp only
  omega)
 have hLl : L.length = y.length := by rw [hp.length_eq, List.length_map]
 refine ⟨M, dd L, ?_, hMn, hM1, fun v hvc => ⟨(hv v hvc).1, hM2 v hvc⟩, dd_rise edge_tri hso, fun e => by rw [Q135]; exact hp.mem_iff, by have := dd_len L; omega⟩
 have hcl : Q63.f x = some x := by
  unfold Q63.f
  rw [if_pos (by omega)]
 unfold Q11.f
 rw [hc, Option.bind_some, if_neg (by omega), hM, Option.bind_some, hcl, Option.bind_some, q0_run R hl, Q25, hL, Option.bind_some, Q281 L (by have := R.ny; omega), Option.bind_some, q1_run R hl, Q25, wrap64 (x := M + 1) (by omega) (by omega)]
end
end Go.Bw
namespace Go.Bw
open Go Go.RowKit

theorem rise_of {α : Type} [Inhabited α] {lt : α → α → Prop} {a : List α} (h : a.Pairwise lt) : Rise lt a := fun i i0 i1 => by
 have h1 := Q69 (xs := a) (i := i - 1) (by omega) (by omega)
 have h2 := Q69 (xs := a) (i := i) (by omega) i1
 rw [List.getElem?_eq_getElem (by omega)] at h1 h2
 have := List.pairwise_iff_getElem.1 h (i - 1).toNat i.toNat (by omega) (by omega) (by omega)
 rw [Option.some.inj h1, Option.some.inj h2] at this
 exact this
section
variable {n : Int} {x : List Bs} {y : List Q0} {z : List Q1} {next : List (Q9 × Q6)} {holds : List (Bs × Q6)}
end
end Go.Bw
namespace Go.Bw
open Go Go.RowKit Go.Proofs
noncomputable def Q55.l1b (t278 : (List Q1) × (List Q0) × (List Bs) × (List Int) × Int) (x2568 x2569 : Int) : Option ((Int × Int) ⊕ ((Int) ⊕ (Bool))) :=
 if x2569 < (t278.2.2.2.1.length : Int) then
 jn (
 if (0 : Int) ≤ x2569 ∧ x2569 < (t278.2.2.2.1.length : Int) then
 jn (
 if gt t278.2.2.2.1 x2569 < 0 then
 some (.inl true)
 else
 some (.inl (decide (x2568 < gt t278.2.2.2.1 x2569)))) (fun (x3189 : Bool) =>
 if x3189 = true then
 up (upL (some false))
 else
 if gt t278.2.2.2.1 x2569 = x2568 then
 some (.inl (IntKind.i64.wrap (x2568 + 1)))
 else
 some (.inl x2568))
 else none) (fun (x2987 : Int) =>
 nx (x2987, IntKind.i64.wrap (x2569 + 1)))
 else
 dn (.inl x2568)
noncomputable def Q55.l1 (t278 : (List Q1) × (List Q0) × (List Bs) × (List Int) × Int) (x2568 x2569 : Int) : Option ((Int) ⊕ (Bool)) := iter (fun t_ : Int × Int => Q55.l1b t278 t_.1 t_.2) (x2568, x2569)
noncomputable def Q55.l0b (t733 : (List Int)) (x1754 : Int) : Option ((Int) ⊕ ((Unit) ⊕ (Bool))) :=
 if x1754 < (t733.length : Int) then
 if (0 : Int) ≤ x1754 ∧ x1754 < (t733.length : Int) then
 if gt t733 x1754 = x1754 then
 nx (IntKind.i64.wrap (x1754 + 1))
 else
 upL (some false)
 else none
 else
 dn (.inl ())
noncomputable def Q55.l0 (t733 : (List Int)) (x1754 : Int) : Option ((Unit) ⊕ (Bool)) := iter (fun t_ : Int => Q55.l0b t733 t_) x1754
noncomputable def Q55.f (a0_0 : Int) (a0_1 : List Bs) (a0_2 : List Q0) (a0_3 : List Q1) : Option Bool :=
 (Q87.f ).bind fun t276 =>
 (Q11.f a0_0 a0_1 a0_2 a0_3).bind fun t278 =>
 jn (
 if t276 = true then
 some (.inl (decide ((t278.2.2.2.1.length : Int) = 0)))
 else
 some (.inl true)) (fun (x501 : Bool) =>
 if x501 = true then
 jn (
 if t276 = true then
 (Q17.f a0_0 a0_1 a0_2 a0_3).bind fun t713 =>
 some (.inl (!t713))
 else
 some (.inl false)) (fun (x707 : Bool) =>
 some x707)
 else
 (Q26.f t278.2.2.2.2 t278.2.2.1 t278.2.1 t278.1).bind fun t733 =>
 (Q17.f t278.2.2.2.2 t278.2.2.1 t278.2.1 t278.1).bind fun t740 =>
 jn (
 if t740 = true then
 some (.inl (!(decide ((t733.length : Int) = t278.2.2.2.2))))
 else
 some (.inl true)) (fun (x942 : Bool) =>
 jn (
 if x942 = true then
 some (.inl true)
 else
 some (.inl (decide (a0_0 < t278.2.2.2.2)))) (fun (x1147 : Bool) =>
 if x1147 = true then
 some false
 else
 jn (Q55.l0 t733 0) (fun (_ : Unit) =>
 jn (Q55.l1 t278 0 0) (fun (x2770 : Int) =>
 some (decide (x2770 = t278.2.2.2.2)))))))
theorem Q55.spec (R : Res) (Fr : List HProp) (A0_1 : Option Addr) (n0_1 : Nat) (c0_1 : Nat) (A0_2 : Option Addr) (n0_2 : Nat) (c0_2 : Nat) (A0_3 : Option Addr) (n0_3 : Nat) (c0_3 : Nat) (a0_0 : Int) (a0_1 : List Bs) (a0_2 : List Q0) (a0_3 : List Q1) (hr0_1 : RdS Fl.bs.rep R.heap A0_1 a0_1) (hn0_1 : a0_1.length = n0_1) (hc0_1 : n0_1 ≤ c0_1) (hr0_2 : RdS Q0.fl.rep R.heap A0_2 a0_2) (hn0_2 : a0_2.length = n0_2) (hc0_2 : n0_2 ≤ c0_2) (hr0_3 : RdS Q1.rep R.heap A0_3 a0_3) (hn0_3 : a0_3.length = n0_3) (hc0_3 : n0_3 ≤ c0_3) (hg0 : RdS (Fl.int .u8).rep R.heap (some ⟨0, 0, none⟩) Tryz.gtab0) {r : Bool} (j : Q55.f a0_0 a0_1 a0_2 a0_3 = some r) :
 Spec Tryz.prog 4 [.agg #[.int .i64 a0_0, .slice A0_1 n0_1 c0_1, .slice A0_2 n0_2 c0_2, .slice A0_3 n0_3 c0_3]] R (Fr) (fun v l' => v = .bool r ∧ Fr = l') := by
 subst hn0_1; subst hn0_2; subst hn0_3; refine Spec.of Tryz.func4 rfl rfl ?_; unfold Q55.f at j; have j := brun j; refine At.seq (At.region ?_); refine At.box rfl rfl (cs := [.int .i64 a0_0, .slice A0_1 a0_1.length c0_1, .slice A0_2 a0_2.length c0_2, .slice A0_3 a0_3.length c0_3]) rfl rfl (fun b275 => ?_); refine At.run 1 rfl (At.nil (At.thn (At.seq (At.region ?_)))); obtain ⟨t276, hc277, j⟩ := bbind j; refine At.call rfl Q87.callee rfl rfl rfl (Q87.spec _ _   hg0 hc277) ?_; rintro _ _ ⟨rfl, rfl⟩; refine At.run 1 rfl (At.nil (At.thn (At.seq (At.region (At.y (Y.load rfl rfl .z rfl rfl rfl) rfl rfl rfl ?_))))); obtain ⟨t278, hc279, j⟩ := bbind j; refine At.call rfl Q11.callee rfl rfl rfl (Q11.spec _ _ A0_1 a0_1.length c0_1 A0_2 a0_2.length c0_2 A0_3 a0_3.length c0_3 a0_0 a0_1 a0_2 a0_3 hr0_1 rfl hc0_1 hr0_2 rfl hc0_2 hr0_3 rfl hc0_3 hg0 hc279) ?_; rintro _ _ ⟨w280, w281, w282, w283, w284, w285, w286, w287, w288, w289, w290, w291, rfl, rfl, rfl, rfl, rfl, rfl⟩; refine At.run 3 rfl ?_; refine At.alloc rfl rfl rfl (fun b300 => ?_); refine At.store rfl rfl rfl rfl .z rfl rfl rfl (.c (.c (.c (.c .n)))) ?_; refine At.run 1 rfl (At.nil (At.thn (At.seq (At.seq (At.region (At.run 3 rfl ?_)))))); obtain ⟨G502, hl503, hr504, j⟩ := bjoin j; refine At.joinO 4 (X := Bool) (fun x501 => [(1, .pointer (some ⟨b275, 0, none⟩)), (3, .bool t276), (4, .pointer (some ⟨b300, 0, none⟩)), (5, .slice w290 t278.2.2.2.1.length w291), (22, .bool x501)]) (fun x501 => pt b300 (.cells [.int .i64 t278.2.2.2.2, .slice w287 t278.2.2.1.length w288, .slice w284 t278.2.1.length w285, .slice w281 t278.1.length w282].toArray 26) :: row Fl.bs 9 w287 t278.2.2.1.length w288 t278.2.2.1 :: row Q0.fl 35 w284 t278.2.1.length w285 t278.2.1 :: grow Q1.ow 37 w281 t278.1.length w282 t278.1 :: row (Fl.int .i64) 3 w290 t278.2.2.2.1.length w291 t278.2.2.2.1 :: pt b275 (.cells [.int .i64 a0_0, .slice A0_1 a0_1.length c0_1, .slice A0_2 a0_2.length c0_2, .slice A0_3 a0_3.length c0_3].toArray 26) :: Fr) (fun x501 => G502 (.inl x501) = some r) ?_ (fun J505 => ?_)
 ·rintro x501 j; have j := (hl503 _).symm.trans j
  ·refine At.nil (At.thn ?_); rcases bite j with ⟨h506, j⟩ | ⟨h506, j⟩
   ··refine At.condT rfl h506 ?_
     refine At.seq (At.region (At.run 2 rfl ?_)); obtain ⟨G708, hl709, hr710, j⟩ := bjoin j; refine At.joinO 4 (X := Bool) (fun x707 => [(28, .bool x707)]) (fun x707 => pt b300 (.cells [.int .i64 t278.2.2.2.2, .slice w287 t278.2.2.1.length w288, .slice w284 t278.2.1.length w285, .slice w281 t278.1.length w282].toArray 26) :: row Fl.bs 9 w287 t278.2.2.1.length w288 t278.2.2.1 :: row Q0.fl 35 w284 t278.2.1.length w285 t278.2.1 :: grow Q1.ow 37 w281 t278.1.length w282 t278.1 :: row (Fl.int .i64) 3 w290 t278.2.2.2.1.length w291 t278.2.2.2.1 :: pt b275 (.cells [.int .i64 a0_0, .slice A0_1 a0_1.length c0_1, .slice A0_2 a0_2.length c0_2, .slice A0_3 a0_3.length c0_3].toArray 26) :: Fr) (fun x707 => G708 (.inl x707) = some r) ?_ (fun J711 => ?_)
     ·rintro x707 j; have j := (hl709 _).symm.trans j
      ·refine At.run 1 rfl (At.nil (At.thn (At.ret (At.thr (At.drop .z (At.drop .z (At.drop .z ?_))))))); refine At.drop .z (At.drop .z (At.drop .z ?_)); cases bret j; exact At.res (.inl rfl) rfl rfl ⟨rfl, rfl⟩
     ··rcases bite j with ⟨h712, j⟩ | ⟨h712, j⟩
       ··refine At.know (t := 24) rfl h712 ?_
         refine At.y (Y.load rfl rfl (.s (.s (.s (.s (.s .z))))) rfl rfl rfl) rfl rfl rfl ?_; obtain ⟨t713, hc714, j⟩ := bbind j; refine At.call rfl Q17.callee rfl rfl rfl (Q17.spec _ _ A0_1 a0_1.length c0_1 A0_2 a0_2.length c0_2 A0_3 a0_3.length c0_3 a0_0 a0_1 a0_2 a0_3 hr0_1 rfl hc0_1 hr0_2 rfl hc0_2 hr0_3 rfl hc0_3 hc714) ?_; rintro _ _ ⟨rfl, rfl⟩; refine At.run 2 rfl ?_; exact At.of (J711 (!t713) j) ⟨rfl, trivial⟩
       ··refine At.know (t := 24) rfl (bn h712) ?_
         refine At.run 4 rfl ?_; exact At.of (J711 false j) ⟨rfl, trivial⟩
   ··refine At.condF rfl (bn h506) ?_
     refine At.skip (At.thn (At.seq (At.region (At.y (Y.load rfl rfl .z rfl rfl rfl) rfl rfl rfl ?_)))); refine At.freeze (.s .z) fun R715 hr716 hn717 hc718 hs719 th720 => ?_; refine At.freeze (.s .z) fun R721 hr722 hn723 hc724 hs725 th726 => ?_; refine At.freezeGrow (.s .z) fun R727 hr728 hn729 hc730 hs731 th732 => ?_; obtain ⟨t733, hc734, j⟩ := bbind j; refine At.call rfl Q26.callee rfl rfl rfl (Q26.spec _ _ w287 t278.2.2.1.length w288 w284 t278.2.1.length w285 w281 t278.1.length w282 t278.2.2.2.2 t278.2.2.1 t278.2.1 t278.1 (RdS.mono (hs725.trans hs731) hr716) hn717 hc718 (RdS.mono hs731 hr722) hn723 hc724 hr728 hn729 hc730 (RdS.mono ((hs719.trans hs725).trans hs731) hg0) hc734) ?_; rintro _ _ ⟨w735, w736, w737, rfl, rfl, rfl⟩; refine At.run 1 rfl (At.nil (At.thn (At.seq (At.seq (At.region (At.y (Y.load rfl rfl (.s .z) rfl rfl rfl) rfl rfl rfl ?_)))))); obtain ⟨t740, hc741, j⟩ := bbind j; refine At.call rfl Q17.callee rfl rfl rfl (Q17.spec _ _ w287 t278.2.2.1.length w288 w284 t278.2.1.length w285 w281 t278.1.length w282 t278.2.2.2.2 t278.2.2.1 t278.2.1 t278.1 (RdS.mono (hs725.trans hs731) hr716) hn717 hc718 (RdS.mono hs731 hr722) hn723 hc724 hr728 hn729 hc730 hc741) ?_; rintro _ _ ⟨rfl, rfl⟩; refine At.run 2 rfl ?_; obtain ⟨G943, hl944, hr945, j⟩ := bjoin j; refine At.joinO 6 (X := Bool) (fun x942 => [(1, .pointer (some ⟨b275, 0, none⟩)), (4, .pointer (some ⟨b300, 0, none⟩)), (5, .slice w290 t278.2.2.2.1.length w291), (6, .slice w736 t733.length w737), (40, .bool x942)]) (fun x942 => row (Fl.int .i64) 3 w736 t733.length w737 t733 :: pt b300 (.cells [.int .i64 t278.2.2.2.2, .slice w287 t278.2.2.1.length w288, .slice w284 t278.2.1.length w285, .slice w281 t278.1.length w282].toArray 26) :: row (Fl.int .i64) 3 w290 t278.2.2.2.1.length w291 t278.2.2.2.1 :: pt b275 (.cells [.int .i64 a0_0, .slice A0_1 a0_1.length c0_1, .slice A0_2 a0_2.length c0_2, .slice A0_3 a0_3.length c0_3].toArray 26) :: Fr) (fun x942 => G943 (.inl x942) = some r) ?_ (fun J946 => ?_)
     ·rintro x942 j; have j := (hl944 _).symm.trans j
      ·refine At.run 1 rfl ?_; obtain ⟨G1148, hl1149, hr1150, j⟩ := bjoin j; refine At.joinO 6 (X := Bool) (fun x1147 => [(4, .pointer (some ⟨b300, 0, none⟩)), (5, .slice w290 t278.2.2.2.1.length w291), (6, .slice w736 t733.length w737), (47, .bool x1147)]) (fun x1147 => row (Fl.int .i64) 3 w736 t733.length w737 t733 :: pt b300 (.cells [.int .i64 t278.2.2.2.2, .slice w287 t278.2.2.1.length w288, .slice w284 t278.2.1.length w285, .slice w281 t278.1.length w282].toArray 26) :: row (Fl.int .i64) 3 w290 t278.2.2.2.1.length w291 t278.2.2.2.1 :: pt b275 (.cells [.int .i64 a0_0, .slice A0_1 a0_1.length c0_1, .slice A0_2 a0_2.length c0_2, .slice A0_3 a0_3.length c0_3].toArray 26) :: Fr) (fun x1147 => G1148 (.inl x1147) = some r) ?_ (fun J1151 => ?_)
       ·rintro x1147 j; have j := (hl1149 _).symm.trans j
        ·refine At.nil (At.thn ?_); rcases bite j with ⟨h1152, j⟩ | ⟨h1152, j⟩
         ··refine At.condT rfl h1152 ?_
           refine At.seq (At.region (At.run 1 rfl (At.nil (At.thn (At.ret (At.thr ?_)))))); refine At.thaw th732 ?_; refine At.thaw th726 ?_; refine At.thaw th720 ?_; refine At.drop .z (At.drop .z (At.drop .z (At.drop .z (At.drop .z (At.drop .z (At.drop .z ?_)))))); cases bret j; exact At.res (.inl rfl) rfl rfl ⟨rfl, rfl⟩
         ··refine At.condF rfl (bn h1152) ?_
           refine At.skip (At.thn (At.seq (At.seq (At.region (At.run 1 rfl (At.nil (At.thn ?_))))))); refine At.block ?_; obtain ⟨G1955, hl1956, hr1957, j⟩ := bjoin j; obtain ⟨o1958, hlo1959, ho1960⟩ := bsome j; clear j; unfold Q55.l0 at hlo1959; obtain ⟨m1961, hit1963⟩ := Q27.1 hlo1959; clear hlo1959; refine At.loopJ (X := Int) (Y := Unit) (e0 := 0) (fun x1754 => [(4, .pointer (some ⟨b300, 0, none⟩)), (5, .slice w290 t278.2.2.2.1.length w291), (6, .slice w736 t733.length w737), (7, .int .i64 x1754)]) (fun x1754 => row (Fl.int .i64) 3 w736 t733.length w737 t733 :: pt b300 (.cells [.int .i64 t278.2.2.2.2, .slice w287 t278.2.2.1.length w288, .slice w284 t278.2.1.length w285, .slice w281 t278.1.length w282].toArray 26) :: row (Fl.int .i64) 3 w290 t278.2.2.2.1.length w291 t278.2.2.2.1 :: pt b275 (.cells [.int .i64 a0_0, .slice A0_1 a0_1.length c0_1, .slice A0_2 a0_2.length c0_2, .slice A0_3 a0_3.length c0_3].toArray 26) :: Fr) (fun m_ => fun x1754 => iterN (fun t_ : Int => Q55.l0b t733 t_) m_ x1754 = some o1958) m1961 0 hit1963 (fun _ => [(4, .pointer (some ⟨b300, 0, none⟩)), (5, .slice w290 t278.2.2.2.1.length w291)]) (fun _ => row (Fl.int .i64) 3 w736 t733.length w737 t733 :: pt b300 (.cells [.int .i64 t278.2.2.2.2, .slice w287 t278.2.2.1.length w288, .slice w284 t278.2.1.length w285, .slice w281 t278.1.length w282].toArray 26) :: row (Fl.int .i64) 3 w290 t278.2.2.2.1.length w291 t278.2.2.2.1 :: pt b275 (.cells [.int .i64 a0_0, .slice A0_1 a0_1.length c0_1, .slice A0_2 a0_2.length c0_2, .slice A0_3 a0_3.length c0_3].toArray 26) :: Fr) (fun _ => G1955 (.inl ()) = some r) (fun a w e hs => ⟨e.sub ⟨rfl, rfl, rfl, rfl, trivial⟩, (by exact hs)⟩) ?_ (fun J1965 => ?_)
           ·rintro _ j; have j := (hl1956 _).symm.trans j
            ·refine At.ibx ?_; refine At.thn (At.seq (At.region (At.run 1 rfl (At.nil (At.thn (At.seq (At.seq ?_))))))); refine At.region (At.run 1 rfl (At.nil (At.thn ?_))); refine At.block ?_; obtain ⟨G2771, hl2772, hr2773, j⟩ := bjoin j; obtain ⟨o2774, hlo2775, ho2776⟩ := bsome j; clear j; unfold Q55.l1 at hlo2775; obtain ⟨m2777, hit2779⟩ := Q27.1 hlo2775; clear hlo2775; refine At.loopJ (X := Int × Int) (Y := Int) (e0 := 2) (fun s_ => [(4, .pointer (some ⟨b300, 0, none⟩)), (5, .slice w290 t278.2.2.2.1.length w291), (8, .int .i64 s_.1), (9, .int .i64 s_.2)]) (fun s_ => row (Fl.int .i64) 3 w736 t733.length w737 t733 :: pt b300 (.cells [.int .i64 t278.2.2.2.2, .slice w287 t278.2.2.1.length w288, .slice w284 t278.2.1.length w285, .slice w281 t278.1.length w282].toArray 26) :: row (Fl.int .i64) 3 w290 t278.2.2.2.1.length w291 t278.2.2.2.1 :: pt b275 (.cells [.int .i64 a0_0, .slice A0_1 a0_1.length c0_1, .slice A0_2 a0_2.length c0_2, .slice A0_3 a0_3.length c0_3].toArray 26) :: Fr) (fun m_ => fun s_ => iterN (fun t_ : Int × Int => Q55.l1b t278 t_.1 t_.2) m_ (s_.1, s_.2) = some o2774) m2777 (0, 0) hit2779 (fun x2770 => [(4, .pointer (some ⟨b300, 0, none⟩)), (8, .int .i64 x2770)]) (fun x2770 => row (Fl.int .i64) 3 w736 t733.length w737 t733 :: pt b300 (.cells [.int .i64 t278.2.2.2.2, .slice w287 t278.2.2.1.length w288, .slice w284 t278.2.1.length w285, .slice w281 t278.1.length w282].toArray 26) :: row (Fl.int .i64) 3 w290 t278.2.2.2.1.length w291 t278.2.2.2.1 :: pt b275 (.cells [.int .i64 a0_0, .slice A0_1 a0_1.length c0_1, .slice A0_2 a0_2.length c0_2, .slice A0_3 a0_3.length c0_3].toArray 26) :: Fr) (fun x2770 => G2771 (.inl x2770) = some r) (fun a w e hs => ⟨e.sub ⟨rfl, rfl, rfl, rfl, trivial⟩, (by exact hs)⟩) ?_ (fun J2781 => ?_)
             ·rintro x2770 j; have j := (hl2772 _).symm.trans j
              ·refine At.ibx ?_; refine At.thn (At.seq (At.region (At.run 2 rfl (At.y (Y.load rfl rfl (.s .z) rfl rfl rfl) rfl rfl rfl (At.run 2 rfl (At.nil (At.thn ?_))))))); refine At.ret ?_; refine At.thaw th732 ?_; refine At.thaw th726 ?_; refine At.thaw th720 ?_; refine At.drop .z (At.drop .z (At.drop .z (At.drop .z (At.drop .z (At.drop .z (At.drop .z ?_)))))); cases bret j; exact At.res (.inl rfl) rfl rfl ⟨rfl, rfl⟩
             ·clear hit2779 m2777; rintro m2777 ⟨x2568, x2569⟩ hit2779; obtain ⟨m2778, f_, hlt2780, hf_, j⟩ := bit hit2779; clear hit2779; have j : (Q55.l1b t278 x2568 x2569).bind _ = some o2774 := j; unfold Q55.l1b at j
              ·refine At.seq (At.seq (At.region (At.run 4 rfl (At.nil (At.thn ?_))))); rcases bite j with ⟨h2782, j⟩ | ⟨h2782, j⟩
               ··refine At.condT rfl (decide_eq_true h2782) ?_
                 refine At.skip (At.thn (At.seq ?_)); obtain ⟨G2783, hl2784, hr2785, j⟩ := bjoin j; refine At.join (X := Int) (fun x2987 => [(4, .pointer (some ⟨b300, 0, none⟩)), (5, .slice w290 t278.2.2.2.1.length w291), (8, .int .i64 x2987), (9, .int .i64 x2569)]) (fun x2987 => row (Fl.int .i64) 3 w736 t733.length w737 t733 :: pt b300 (.cells [.int .i64 t278.2.2.2.2, .slice w287 t278.2.2.1.length w288, .slice w284 t278.2.1.length w285, .slice w281 t278.1.length w282].toArray 26) :: row (Fl.int .i64) 3 w290 t278.2.2.2.1.length w291 t278.2.2.2.1 :: pt b275 (.cells [.int .i64 a0_0, .slice A0_1 a0_1.length c0_1, .slice A0_2 a0_2.length c0_2, .slice A0_3 a0_3.length c0_3].toArray 26) :: Fr) (fun x2987 => G2783 (.inl x2987) = some o2774) ?_ (fun J2786 => ?_)
                 ·rintro x2987 j; have j := (hl2784 _).symm.trans j
                  ·refine At.region (At.run 3 rfl (At.nil ?_)); have j := bnx hf_ j; exact fun a w e hs => ⟨m2778, (x2987, IntKind.i64.wrap (x2569 + 1)), hlt2780, j, e.sub ⟨rfl, rfl, rfl, rfl, trivial⟩, hs⟩
                 ··refine At.block ?_
                   refine At.seq (At.seq (At.region (At.run 2 rfl ?_))); obtain ⟨h2988, j⟩ := bnone j; refine At.y (Y.ix (.s (.s .z)) rfl rfl rfl rfl rfl rfl h2988.1 h2988.2) rfl rfl rfl (At.y (Y.ld (.s (.s .z)) (q := 0) rfl rfl h2988.1 h2988.2 rfl rfl rfl) rfl rfl rfl (At.run 2 rfl ?_)); obtain ⟨G3190, hl3191, hr3192, j⟩ := bjoin j; refine At.joinO 7 (X := Bool) (fun x3189 => [(4, .pointer (some ⟨b300, 0, none⟩)), (5, .slice w290 t278.2.2.2.1.length w291), (8, .int .i64 x2568), (9, .int .i64 x2569), (78, .bool x3189)]) (fun x3189 => row (Fl.int .i64) 3 w736 t733.length w737 t733 :: pt b300 (.cells [.int .i64 t278.2.2.2.2, .slice w287 t278.2.2.1.length w288, .slice w284 t278.2.1.length w285, .slice w281 t278.1.length w282].toArray 26) :: row (Fl.int .i64) 3 w290 t278.2.2.2.1.length w291 t278.2.2.2.1 :: pt b275 (.cells [.int .i64 a0_0, .slice A0_1 a0_1.length c0_1, .slice A0_2 a0_2.length c0_2, .slice A0_3 a0_3.length c0_3].toArray 26) :: Fr) (fun x3189 => G3190 (.inl x3189) = some o2774) ?_ (fun J3193 => ?_)
                   ·rintro x3189 j; have j := (hl3191 _).symm.trans j
                    ·refine At.nil (At.thn ?_); rcases bite j with ⟨h3194, j⟩ | ⟨h3194, j⟩
                     ··refine At.condT rfl h3194 ?_
                       refine At.seq (At.region (At.run 1 rfl (At.nil (At.thn (At.ret (At.thr ?_)))))); refine At.ibr ?_; have j := bup hr2785 j; refine At.thr ?_; have j := bupL hr2773 ho2776 j; refine At.thr ?_; refine At.ibr ?_; refine At.thr ?_; refine At.thaw th732 ?_; refine At.thaw th726 ?_; refine At.thaw th720 ?_; refine At.drop .z (At.drop .z (At.drop .z (At.drop .z (At.drop .z (At.drop .z (At.drop .z ?_)))))); cases bret j; exact At.res (.inl rfl) rfl rfl ⟨rfl, rfl⟩
                     ··refine At.condF rfl (bn h3194) ?_
                       refine At.skip (At.thn (At.seq (At.region (At.run 2 rfl (At.y (Y.ix (.s (.s .z)) rfl rfl rfl rfl rfl rfl h2988.1 h2988.2) rfl rfl rfl (At.y (Y.ld (.s (.s .z)) (q := 0) rfl rfl h2988.1 h2988.2 rfl rfl rfl) rfl rfl rfl (At.run 2 rfl ?_))))))); refine At.nil (At.thn ?_); rcases bite j with ⟨h3195, j⟩ | ⟨h3195, j⟩
                       ··refine At.condT rfl (decide_eq_true h3195) ?_
                         refine At.region (At.run 3 rfl (At.nil ?_)); refine At.ibn ?_; refine At.thn ?_; exact fun a w e hs => J2786 (IntKind.i64.wrap (x2568 + 1)) j a w (e.sub ⟨rfl, rfl, rfl, rfl, trivial⟩) hs
                       ··refine At.condF rfl (decide_eq_false h3195) ?_
                         refine At.skip ?_; refine At.ibn ?_; refine At.thn ?_; exact fun a w e hs => J2786 x2568 j a w (e.sub ⟨rfl, rfl, rfl, rfl, trivial⟩) hs
                   ··rcases bite j with ⟨h3196, j⟩ | ⟨h3196, j⟩
                     ··refine At.know (t := 71) rfl (decide_eq_true h3196) ?_
                       refine At.run 7 rfl ?_; exact At.of (J3193 true j) ⟨rfl, rfl, rfl, rfl, rfl, trivial⟩
                     ··refine At.know (t := 71) rfl (decide_eq_false h3196) ?_
                       refine At.run 2 rfl (At.y (Y.ix (.s (.s .z)) rfl rfl rfl rfl rfl rfl h2988.1 h2988.2) rfl rfl rfl (At.y (Y.ld (.s (.s .z)) (q := 0) rfl rfl h2988.1 h2988.2 rfl rfl rfl) rfl rfl rfl (At.run 3 rfl ?_))); exact At.of (J3193 (decide (x2568 < gt t278.2.2.2.1 x2569)) j) ⟨rfl, rfl, rfl, rfl, rfl, trivial⟩
               ··refine At.condF rfl (decide_eq_false h2782) ?_
                 refine At.exit ?_; refine At.the ?_; refine At.the ?_; exact fun a w e hs => J2781 x2568 (bdn j ho2776) a w (e.sub ⟨rfl, rfl, trivial⟩) hs
           ·clear hit1963 m1961; rintro m1961 x1754 hit1963; obtain ⟨m1962, f_, hlt1964, hf_, j⟩ := bit hit1963; clear hit1963; have j : (Q55.l0b t733 x1754).bind _ = some o1958 := j; unfold Q55.l0b at j
            ·refine At.seq (At.seq (At.region (At.run 4 rfl (At.nil (At.thn ?_))))); rcases bite j with ⟨h3197, j⟩ | ⟨h3197, j⟩
             ··refine At.condT rfl (decide_eq_true h3197) ?_
               refine At.skip (At.thn (At.seq ?_)); refine At.block ?_; refine At.seq (At.region (At.run 2 rfl ?_)); obtain ⟨h3198, j⟩ := bnone j; refine At.y (Y.ix .z rfl rfl rfl rfl rfl rfl h3198.1 h3198.2) rfl rfl rfl (At.y (Y.ld .z (q := 0) rfl rfl h3198.1 h3198.2 rfl rfl rfl) rfl rfl rfl (At.run 2 rfl (At.nil (At.thn ?_)))); rcases bite j with ⟨h3199, j⟩ | ⟨h3199, j⟩
               ··refine At.condF rfl (nf (decide_eq_true h3199)) ?_
                 refine At.skip ?_; refine At.ibn ?_; refine At.thn (At.region (At.run 3 rfl (At.nil ?_))); have j := bnx hf_ j; exact fun a w e hs => ⟨m1962, (IntKind.i64.wrap (x1754 + 1)), hlt1964, j, e.sub ⟨rfl, rfl, rfl, rfl, trivial⟩, hs⟩
               ··refine At.condT rfl (nt (decide_eq_false h3199)) ?_
                 refine At.seq (At.region (At.run 1 rfl (At.nil (At.thn (At.ret ?_))))); refine At.ibr ?_; refine At.thr ?_; have j := bupL hr1957 ho1960 j; refine At.thr ?_; refine At.ibr ?_; refine At.thr ?_; refine At.thaw th732 ?_; refine At.thaw th726 ?_; refine At.thaw th720 ?_; refine At.drop .z (At.drop .z (At.drop .z (At.drop .z (At.drop .z (At.drop .z (At.drop .z ?_)))))); cases bret j; exact At.res (.inl rfl) rfl rfl ⟨rfl, rfl⟩
             ··refine At.condF rfl (decide_eq_false h3197) ?_
               refine At.exit ?_; refine At.the ?_; refine At.the ?_; exact fun a w e hs => J1965 () (bdn j ho1960) a w (e.sub ⟨rfl, rfl, trivial⟩) hs
       ··rcases bite j with ⟨h3200, j⟩ | ⟨h3200, j⟩
         ··refine At.know (t := 41) rfl h3200 ?_
           refine At.run 6 rfl ?_; exact At.of (J1151 true j) ⟨rfl, rfl, rfl, rfl, trivial⟩
         ··refine At.know (t := 41) rfl (bn h3200) ?_
           refine At.run 1 rfl (At.y (Y.load rfl rfl (.s .z) rfl rfl rfl) rfl rfl rfl (At.run 1 rfl (At.y (Y.load rfl rfl (.s (.s (.s .z))) rfl rfl rfl) rfl rfl rfl (At.run 2 rfl ?_)))); exact At.of (J1151 (decide (a0_0 < t278.2.2.2.2)) j) ⟨rfl, rfl, rfl, rfl, trivial⟩
     ··rcases bite j with ⟨h3201, j⟩ | ⟨h3201, j⟩
       ··refine At.know (t := 34) rfl (nf h3201) ?_
         refine At.run 3 rfl (At.y (Y.load rfl rfl (.s .z) rfl rfl rfl) rfl rfl rfl (At.run 2 rfl ?_)); exact At.of (J946 (!(decide ((t733.length : Int) = t278.2.2.2.2))) j) ⟨rfl, rfl, rfl, rfl, rfl, trivial⟩
       ··refine At.know (t := 34) rfl (nt (bn h3201)) ?_
         refine At.run 6 rfl ?_; exact At.of (J946 true j) ⟨rfl, rfl, rfl, rfl, rfl, trivial⟩
 ··rcases bite j with ⟨h3202, j⟩ | ⟨h3202, j⟩
   ··refine At.know (t := 18) rfl (nf h3202) ?_
     refine At.run 4 rfl ?_; exact At.of (J505 (decide ((t278.2.2.2.1.length : Int) = 0)) j) ⟨rfl, rfl, rfl, rfl, rfl, trivial⟩
   ··refine At.know (t := 18) rfl (nt (bn h3202)) ?_
     refine At.run 4 rfl ?_; exact At.of (J505 true j) ⟨rfl, rfl, rfl, rfl, rfl, trivial⟩

end Go.Bw
namespace Go.Bw
open Go Go.RowKit

theorem list_rise (u : W4) : u.list.Pairwise (· < ·) := by
 have m : ∀ {b : Int} {v : BitVec 64} {t : Int}, t ∈ wplaces b v → b ≤ t ∧ t < b + 64 := fun h => by
  obtain ⟨i, h1, _, rfl⟩ := Q189.1 h
  omega
 unfold W4.list
 refine List.pairwise_append.2 ⟨List.pairwise_append.2 ⟨List.pairwise_append.2 ⟨Q140 _ _, Q140 _ _, fun a ha b hb => ?_⟩, Q140 _ _, fun a ha b hb => ?_⟩, Q140 _ _, fun a ha b hb => ?_⟩
 ·have := m ha; have := m hb; omega
 ·have h2 := m hb
  rcases List.mem_append.1 ha with h | h <;> (have := m h; omega)
 ·have h2 := m hb
  rcases List.mem_append.1 ha with h | h
  ·rcases List.mem_append.1 h with h | h <;> (have := m h; omega)
  ·have := m h; omega
section
variable {n : Int} {x : List Bs} {y y' : List Q0} {z : List Q1} {c : List Int} {M : Int}
structure QI (n : Int) (x : List Bs) (y : List Q0) (z : List Q1) (c : List Int) (M : Int) (y' : List Q0) : Prop where
 R : RightS n x y z
 C : Cls n (Hs z) (Es x y) c
 m : 0 ≤ M ∧ M < n
 mem : M ∈ c
 le : ∀ v ∈ c, 0 ≤ v ∧ v ≤ M
 up : y'.Pairwise edgeLt
 iff : ∀ e, e ∈ y' ↔ e ∈ y.map (qE c)
 len : y'.length ≤ y.length
theorem QI.in_ (q : QI n x y z c M y') {s : Int} (h0 : 0 ≤ s) (h1 : s < n) : 0 ≤ gt c s ∧ gt c s ≤ M := by
 have := q.C.len
 exact q.le _ (Q80 h0 (by omega))
theorem QI.onto (q : QI n x y z c M y') {v : Int} (h0 : 0 ≤ v) (h1 : v ≤ M) : ∃ s, 0 ≤ s ∧ s < n ∧ gt c s = v := by
 have hl := q.C.len
 obtain ⟨k, hk, e⟩ := List.getElem_of_mem q.mem
 have hg : gt c (k : Int) = M := (Q103 (List.getElem?_eq_getElem hk)).trans e
 by_cases hv : v = M
 ·exact ⟨k, by omega, by omega, by omega⟩
 ·obtain ⟨j, j0, j1, j2⟩ := (q.C.canon k (by omega) (by omega)).2 v h0 (by omega)
  exact ⟨j, j0, by omega, j2⟩
theorem QI.same (q : QI n x y z c M y') {s t : Int} (s0 : 0 ≤ s) (s1 : s < n) (t0 : 0 ≤ t) (t1 : t < n) : gt c s = gt c t ↔ Alike (Hs z) (Es x y) s t := q.C.iff s t s0 s1 t0 t1
theorem qW_mem (q : QI n x y z c M y') {S : List Int} (hS : ∀ s ∈ S, 0 ≤ s ∧ s < n) {v : Int} : v ∈ (qW c S).list ↔ ∃ t ∈ S, gt c t = v := by
 have n1 := q.R.n1
 have hm := q.m
 have hr := Q182 (gt c) (L := S) (u := W4.z) W4.z_rep (fun t ht => by
  have := q.in_ (hS t ht).1 (hS t ht).2
  omega)
 rw [show (qW c S) = S.foldl (fun u t => putc u (gt c t)) W4.z from rfl, Q150 hr]
 constructor
 ·rintro ⟨_, _, h | h⟩
  ·cases h
  ·exact h
 ·rintro ⟨t, ht, rfl⟩
  have := q.in_ (hS t ht).1 (hS t ht).2
  exact ⟨by omega, by omega, .inr ⟨t, ht, rfl⟩⟩
theorem QI.right (q : QI n x y z c M y') : RightS (M + 1) x y' (z.map (qP c)) := by
 have R := q.R
 have n0 := R.n0
 have n1 := R.n1
 have hm := q.m
 refine ⟨by omega, by omega, R.nx, by rw [List.length_map]; exact R.nz, by have := q.len; have := R.ny; omega, fun e he => ?_, fun p hp => ?_, R.nm, fun k k0 k1 => ?_, rise_of q.up, R.rx, rise_mapp (lt := fun p q => BLt p.Name q.Name) (qP c) R.rz fun u v h => h⟩
 ·obtain ⟨e0, he0, rfl⟩ := List.mem_map.1 ((q.iff e).1 he)
  have hE := R.ed e0 he0
  unfold EdgeIn at hE
  have h1 := q.in_ hE.1 hE.2.1
  have h2 := q.in_ hE.2.2.1 hE.2.2.2.1
  unfold EdgeIn qE
  dsimp only
  omega
 ·obtain ⟨p0, hp0, rfl⟩ := List.mem_map.1 hp
  have hP := R.pr p0 hp0
  refine ⟨hP.1, fun s hs => ?_, rise_of (list_rise _)⟩
  obtain ⟨t, ht, rfl⟩ := (qW_mem q hP.2.1).1 hs
  have := q.in_ (hP.2.1 t ht).1 (hP.2.1 t ht).2
  omega
 ·obtain ⟨e, he, hk⟩ := R.us k k0 k1
  exact ⟨qE c e, (q.iff _).2 (List.mem_map_of_mem he), hk⟩
theorem QI.hs (q : QI n x y z c M y') {i : Nat} {v : Int} : Hs (z.map (qP c)) i v ↔ ∃ s, 0 ≤ s ∧ s < n ∧ Hs z i s ∧ gt c s = v := by
 unfold Hs
 rw [List.length_map]
 constructor
 ·rintro ⟨hi, p, hp, e, hs⟩
  obtain ⟨p0, hp0, rfl⟩ := List.mem_map.1 hp
  have hP := q.R.pr p0 hp0
  obtain ⟨t, ht, rfl⟩ := (qW_mem q hP.2.1).1 hs
  rw [Q130 (qP c) (by omega) (by omega)] at e
  exact ⟨t, (hP.2.1 t ht).1, (hP.2.1 t ht).2, ⟨hi, p0, hp0, e, ht⟩, rfl⟩
 ·rintro ⟨s, s0, s1, ⟨hi, p, hp, e, hs⟩, rfl⟩
  refine ⟨hi, qP c p, List.mem_map_of_mem hp, ?_, (qW_mem q (q.R.pr p hp).2.1).2 ⟨s, hs, rfl⟩⟩
  rw [Q130 (qP c) (by omega) (by omega)]
  exact e
theorem QI.es (q : QI n x y z c M y') {i : Nat} {v w : Int} : Es x y' i v w ↔ ∃ s t, Es x y i s t ∧ gt c s = v ∧ gt c t = w := by
 unfold Es Hit
 dsimp only
 constructor
 ·rintro ⟨hi, e, he, hs, ht, ha⟩
  obtain ⟨e0, he0, rfl⟩ := List.mem_map.1 ((q.iff e).1 he)
  exact ⟨e0.From, e0.To, ⟨hi, e0, he0, rfl, rfl, ha⟩, hs, ht⟩
 ·rintro ⟨s, t, ⟨hi, e, he, hs, ht, ha⟩, h1, h2⟩
  exact ⟨hi, qE c e, (q.iff _).2 (List.mem_map_of_mem he), by rw [← h1, ← hs]; rfl, by rw [← h2, ← ht]; rfl, ha⟩
theorem QI.one (q : QI n x y z c M y') {v w : Int} (v0 : 0 ≤ v) (v1 : v ≤ M) (w0 : 0 ≤ w) (w1 : w ≤ M) (h : Alike (Hs (z.map (qP c))) (Es x y') v w) : v = w := by
 have hw := Q108 q.R.n1 q.R.ed
 obtain ⟨s, s0, s1, rfl⟩ := q.onto v0 v1
 obtain ⟨t, t0, t1, rfl⟩ := q.onto w0 w1
 have half : ∀ a b : Int, (0 ≤ a ∧ a < n) → (0 ≤ b ∧ b < n) → Alike (Hs (z.map (qP c))) (Es x y') (gt c a) (gt c b) → (∀ i, Hs z i a → Hs z i b) ∧ ∀ i a', Es x y i a a' → ∃ b', Es x y i b b' ∧ (0 ≤ a' ∧ a' < n) ∧ (0 ≤ b' ∧ b' < n) ∧ Alike (Hs (z.map (qP c))) (Es x y') (gt c a') (gt c b') := fun a b ha hb k => by
  refine ⟨fun i hi => ?_, fun i a' he => ?_⟩
  ·have h1 := (Alike.ks.hd _ _ k i).1 (q.hs.2 ⟨a, ha.1, ha.2, hi, rfl⟩)
   obtain ⟨b0, b00, b01, h2, h3⟩ := q.hs.1 h1
   exact (Alike.ks.hd _ _ ((q.same b00 b01 hb.1 hb.2).1 h3) i).1 h2
  ·have w := hw _ _ _ he
   obtain ⟨w', h1, h2⟩ := Alike.ks.fw _ _ k i _ (q.es.2 ⟨a, a', he, rfl, rfl⟩)
   obtain ⟨b0, b0', h3, h4, h5⟩ := q.es.1 h1
   have w0 := hw _ _ _ h3
   obtain ⟨b', h6, h7⟩ := Alike.ks.fw _ _ ((q.same w0.1 w0.2.1 hb.1 hb.2).1 h4) i _ h3
   have w1 := hw _ _ _ h6
   refine ⟨b', h6, ⟨w.2.2.1, w.2.2.2⟩, ⟨w1.2.2.1, w1.2.2.2⟩, ?_⟩
   rw [← (q.same w0.2.2.1 w0.2.2.2 w1.2.2.1 w1.2.2.2).2 h7, h5]
   exact h2
 refine (q.same s0 s1 t0 t1).2 ⟨fun a b => (0 ≤ a ∧ a < n) ∧ (0 ≤ b ∧ b < n) ∧ Alike (Hs (z.map (qP c))) (Es x y') (gt c a) (gt c b), ⟨fun a b ⟨ha, hb, k⟩ i => ⟨(half a b ha hb k).1 i, (half b a hb ha k.symm).1 i⟩, fun a b ⟨ha, hb, k⟩ i a' e => ?_, fun a b ⟨ha, hb, k⟩ i b' e => ?_⟩, ⟨s0, s1⟩, ⟨t0, t1⟩, h⟩
 ·obtain ⟨b', h1, h2, h3, h4⟩ := (half a b ha hb k).2 i a' e
  exact ⟨b', h1, h2, h3, h4⟩
 ·obtain ⟨a', h1, h2, h3, h4⟩ := (half b a hb ha k.symm).2 i b' e
  exact ⟨a', h1, h3, h2, h4.symm⟩
theorem QI.ids (q : QI n x y z c M y') {d : List Int} (D : Cls (M + 1) (Hs (z.map (qP c))) (Es x y') d) : ∀ i : Int, 0 ≤ i → i < (d.length : Int) → gt d i = i := by
 have hl := D.len
 have hm := q.m
 have hg : ∀ i : Int, 0 ≤ i → i < M + 1 → gt ((List.range (M + 1).toNat).map fun k : Nat => (k : Int)) i = i := fun i i0 i1 => by
  have := Q103 (xs := (List.range (M + 1).toNat).map fun k : Nat => (k : Int)) (i := i.toNat) (x := ((i.toNat : Nat) : Int)) (by
   rw [List.getElem?_map, List.getElem?_range (by omega)]; rfl)
  rwa [show ((i.toNat : Nat) : Int) = i from by omega] at this
 have e : d = (List.range (M + 1).toNat).map fun k : Nat => (k : Int) := D.uniq ⟨by simp; omega, fun i i0 i1 => by
  simp only [List.length_map, List.length_range] at i1
  rw [hg i i0 (by omega)]
  exact ⟨i0, fun v v0 v1 => ⟨v, v0, v1, hg v v0 (by omega)⟩⟩, fun s t s0 s1 t0 t1 => by
  rw [hg s s0 s1, hg t t0 t1]
  exact ⟨fun e => e ▸ Alike.refl s, fun h => q.one s0 (by omega) t0 (by omega) h⟩⟩
 intro i i0 i1
 rw [e, hg i i0 (by omega)]
end
theorem once_run (n : Int) (x : List Bs) (y : List Q0) (z : List Q1) (hs : ∀ p ∈ z, (p.States.length : Int) ≤ 9223372036854775807) : Q55.f n x y z = some true := by
 obtain ⟨b, hb, hf⟩ := Q179 n x y z hs
 unfold Q55.f
 rw [Q276, Option.bind_some]
 rcases Q235 n x y z hs with ⟨hno, hN, hE⟩ | ⟨R, c, hc, C⟩
 ·have hbf : b = false := by
   cases b with
   | false => rfl
   | true => exact absurd (hf.1 rfl) hno
  subst hbf
  have hq : Q11.f n x y z = some ([], [], [], [], 0) := by
   unfold Q11.f
   rw [hE, Option.bind_some]
   rfl
  simp [hq, hb, jn]
 ·obtain ⟨M, y', hq, hm, hM, hle, hup, hiff, hlen⟩ := Q258 R hc C
  have q : QI n x y z c M y' := ⟨R, C, hm, hM, hle, hup, hiff, hlen⟩
  have R2 := q.right
  have n0 := R.n0
  have n1 := R.n1
  have hl := C.len
  have hs2 : ∀ p ∈ z.map (qP c), (p.States.length : Int) ≤ 9223372036854775807 := fun p hp => by
   have := Q240 R2.n1 (R2.pr p hp).2
   omega
  obtain ⟨b2, hb2, hf2⟩ := Q179 (M + 1) x y' (z.map (qP c)) hs2
  have hbt : b2 = true := hf2.2 R2
  subst hbt
  rcases Q235 (M + 1) x y' (z.map (qP c)) hs2 with ⟨hno, _⟩ | ⟨_, d, hd, D⟩
  ·exact absurd R2 hno
  have hl2 := D.len
  have hids := q.ids D
  have e0 : Q55.l0 d 0 = some (.inl ()) := by
   obtain ⟨r, hr, rfl⟩ := Q70 (body := fun t_ : Int => Q55.l0b d t_) (fun i => 0 ≤ i) (fun r => r = .inl ()) (fun i => ((d.length : Int) - i).toNat) (fun i i0 => by
    simp only [Q55.l0b]
    by_cases hi : i < (d.length : Int)
    ·right
     rw [if_pos hi, if_pos ⟨i0, hi⟩, if_pos (hids i i0 hi), wrap64 (x := i + 1) (by omega) (by omega)]
     exact ⟨_, rfl, by omega, by omega⟩
    ·left; rw [if_neg hi]; exact ⟨_, rfl, rfl⟩) 0 (Int.le_refl _)
   exact hr
  have e1 : Q55.l1 (z.map (qP c), y', x, c, M + 1) 0 0 = some (.inl (M + 1)) := by
   obtain ⟨r, hr, rfl⟩ := Q70 (body := fun t_ : Int × Int => Q55.l1b (z.map (qP c), y', x, c, M + 1) t_.1 t_.2) (fun s => 0 ≤ s.2 ∧ s.2 ≤ (c.length : Int) ∧ 0 ≤ s.1 ∧ s.1 ≤ s.2 ∧ (∀ j : Int, 0 ≤ j → j < s.2 → gt c j < s.1) ∧ (s.1 = 0 ∨ ∃ j : Int, 0 ≤ j ∧ j < s.2 ∧ gt c j = s.1 - 1))
    (fun r => r = .inl (M + 1)) (fun s => ((c.length : Int) - s.2).toNat) (fun ⟨k, i⟩ ⟨i0, i1, k0, k1, h1, h2⟩ => by
    dsimp only at i0 i1 k0 k1 h1 h2 ⊢
    simp only [Q55.l1b]
    by_cases hi : i < (c.length : Int)
    ·right
     have hc0 := C.canon i i0 hi
     have hck : gt c i ≤ k := by
      by_cases hlt : k < gt c i
      ·obtain ⟨j, j0, j1, j2⟩ := hc0.2 k k0 hlt
       have := h1 j j0 j1
       omega
      ·omega
     rw [if_pos hi, if_pos ⟨i0, hi⟩, if_neg (by omega), Q25, decide_eq_false (by omega), if_neg (by decide), wrap64 (x := i + 1) (by omega) (by omega)]
     by_cases he : gt c i = k
     ·rw [if_pos he, Q25, wrap64 (x := k + 1) (by omega) (by omega)]
      refine ⟨_, rfl, ⟨by dsimp only; omega, by dsimp only; omega, by dsimp only; omega, by dsimp only; omega, fun j j0 j1 => ?_, .inr ⟨i, i0, by dsimp only; omega, by dsimp only; omega⟩⟩, by dsimp only; omega⟩
      dsimp only at j1 ⊢
      by_cases hj : j = i
      ·subst hj; omega
      ·have := h1 j j0 (by omega)
       omega
     ·rw [if_neg he, Q25]
      refine ⟨_, rfl, ⟨by dsimp only; omega, by dsimp only; omega, by dsimp only; omega, by dsimp only; omega, fun j j0 j1 => ?_, ?_⟩, by dsimp only; omega⟩
      ·dsimp only at j1 ⊢
       by_cases hj : j = i
       ·subst hj; omega
       ·exact h1 j j0 (by omega)
      ·rcases h2 with h2 | ⟨j, j0, j1, j2⟩
       ·exact .inl h2
       ·exact .inr ⟨j, j0, by dsimp only; omega, j2⟩
    ·left
     rw [if_neg hi]
     refine ⟨_, rfl, ?_⟩
     obtain ⟨u, hu, e⟩ := List.getElem_of_mem hM
     have hg : gt c (u : Int) = M := (Q103 (List.getElem?_eq_getElem hu)).trans e
     have h3 := h1 u (by omega) (by omega)
     rcases h2 with h2 | ⟨j, j0, j1, j2⟩
     ·omega
     ·have := q.in_ j0 (by omega)
      have : k = M + 1 := by omega
      rw [this]) (0, 0) ⟨Int.le_refl _, by dsimp only; omega, Int.le_refl _, Int.le_refl _, fun j j0 j1 => by dsimp only at j1; omega, .inl rfl⟩
   exact hr
  rw [hq, Option.bind_some, if_pos rfl, Q25]
  dsimp only
  rw [decide_eq_false (show ¬ (c.length : Int) = 0 by omega), if_neg (by decide), hd, Option.bind_some, hb2, Option.bind_some, if_pos rfl, decide_eq_true hl2, Q25, if_neg (by decide), decide_eq_false (by omega), Q25, if_neg (by decide), e0, Q25, e1, Q25, decide_eq_true rfl]
end Go.Bw
namespace Go.Bw
open Go Go.RowKit Go.Proofs Go.ChangeShapes Go.WideShapes
abbrev laid64 : List (String × DataW Unit) := [("math/bits.deBruijn64tab", Go.Proofs.YtbkooifhcekpmaaGreatDoor.Rows.laid_math_bits_deBruijn64tab)]
theorem Q256 {H : Type} : (Go.Proofs.YtbkooifhcekpmaaGreatDoor.Rows.laid_math_bits_deBruijn64tab : DataW H) = .agg (Tryz.gtab0.map fun a => .lit (.int .u8 a)) := rfl
theorem Q278 : Tryz.prog.globalNamed "math/bits.deBruijn64tab" = some 0 := by kernel_rfl
theorem Q259 : (Tryz.prog.globals[0]?).map (·.type) = some 138 := by kernel_rfl
theorem Q248 (os : Os) (args : Array Value) : laidMetH Tryz.prog laid64 ((World.doorLaid Tryz.prog 31 os).forCall (fun _ _ => 0) ⟨#[], args, []⟩).memory :=
 laidMetH_of_parts3 (fuel := 8) (laidMet_of_run' 8 (by kernel_rfl) (by kernel_rfl)) (by kernel_rfl) (by kernel_rfl)
theorem laid64_rd {W : World} (h : laidMetH Tryz.prog laid64 W) : RdS (Fl.int .u8).rep (wh W) (some ⟨0, 0, none⟩) Tryz.gtab0 := by
 rw [MakeChecks.laidMetH_plain _ _ _ (by kernel_rfl)] at h
 obtain ⟨ps, ⟨g0, t0, cs0, f0, p0, q0, hg0, ht0, hv0, hd0, _, _⟩, _, _⟩ := h
 obtain rfl := Option.some.inj (Q278.symm.trans hg0)
 obtain rfl := Option.some.inj (Q259.symm.trans ht0)
 obtain ⟨xs, m1, rfl, hx1, hlen, hn3, hel⟩ := DataW.trod_array Tryz.underlying138 hd0
 have hx : xs.map (·.1) = Tryz.gtab0.map fun a => (DataW.lit (.int .u8 a) : DataW Unit) := by
  have h1 := (Prod.mk.inj hx1).1
  have h2 := (Q256 (H := Unit)).symm.trans h1
  exact (DataW.agg.inj h2).symm
 refine Q246 fun i hi => ?_
 have hgl : Tryz.gtab0.length = 64 := rfl
 have hi' : i < 64 := by omega
 have he := hel i hi'
 have hxi : i < xs.length := by omega
 rw [List.getElem?_eq_getElem hxi] at he
 obtain ⟨k, e1, e2, _⟩ := DataW.trod_int Tryz.underlying5 he
 obtain ⟨v, hv⟩ : ∃ v, Tryz.gtab0[i]? = some v := ⟨_, List.getElem?_eq_getElem hi⟩
 have h2 := congrArg (fun l => l[i]?) hx
 simp only [List.getElem?_map, List.getElem?_eq_getElem hxi, hv, Option.map_some, Option.some.injEq] at h2
 rw [e2] at h2
 have hk : k = v := by simpa using h2
 have c5 : Tryz.prog.cellsOf 5 = 1 := by kernel_rfl
 rw [c5, Nat.mul_one] at e1
 rw [World.var?_cell hg0 hv0 i]
 have hc : (cs0.toList.drop i)[0]? = some (.int .u8 k) := by
  cases hd : cs0.toList.drop i with
  | nil => rw [hd] at e1; simp at e1
  | cons a r => rw [hd] at e1; simp at e1; simp [e1]
 rw [List.getElem?_drop, Nat.add_zero] at hc
 rw [List.getD_eq_getElem?_getD, hv, Option.getD_some, ← hk]
 simpa using hc
end Go.Bw
namespace Go.Bw
open Go Go.RowKit
theorem Q251 {n : Int} {x : List Bs} {y : List Q0} {z : List Q1} (h : (Lit.int .i64 n).wf = true ∧ (x.length ≤ maxLen ∧ ∀ s ∈ x, s.length ≤ maxLen) ∧ (y.length ≤ maxLen ∧ ∀ e ∈ y, ((Lit.int .i64 e.From).wf = true ∧ (Lit.int .i64 e.Action).wf = true ∧ (Lit.int .i64 e.To).wf = true)) ∧
 (z.length ≤ maxLen ∧ ∀ p ∈ z, (p.Name.length ≤ maxLen ∧ (p.States.length ≤ maxLen ∧ ∀ s ∈ p.States, (Lit.int .i64 s).wf = true)))) :
 Q55.f n x y z = some true := once_run n x y z fun p hp => by
 have h1 := (h.2.2.2.2 p hp).2.1
 have h2 : maxLen ≤ 9223372036854775807 := by decide
 omega
end Go.Bw
