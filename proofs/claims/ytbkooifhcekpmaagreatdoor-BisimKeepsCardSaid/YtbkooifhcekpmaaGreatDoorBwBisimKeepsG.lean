/- BisimKeeps, part 7: walks and plain laws. Conditions: none. -/
import Derived.Test.YtbkooifhcekpmaaGreatDoorProg
import Derived.Deep.QuietTactic
import Derived.Test.YtbkooifhcekpmaaGreatDoorRows
import Derived.LaidMore
import Derived.ProofKit
import Derived.OpenShut
import Derived.Stop.Joined
import Derived.Test.YtbkooifhcekpmaaGreatDoorBwBisimKeepsF
set_option linter.unusedVariables false
set_option linter.unusedSimpArgs false
set_option linter.unusedSectionVars false
set_option maxRecDepth 100000
set_option maxHeartbeats 2000000
namespace Go.Bw
open Go Go.RowKit

theorem band0 (v : BitVec 64) : band .u64 (Wd v) 0 = 0 := by
 rw [show (0 : Int) = Wd 0#64 from rfl, Q154]
 simp
def Meets (S : Int → Prop) (to : BitVec 64) : Prop := ∃ t : Nat, t < 64 ∧ S t ∧ to.getLsbD t = true
theorem Q289 {u : W4} {S : Int → Prop} (h : u.Rep S) (to : BitVec 64) : u.a &&& to = 0#64 ↔ ¬ Meets S to := by
 have hb : ∀ i : Nat, i < 64 → (u.a.getLsbD i = true ↔ S i) := fun i hi => by
  have := h i (by omega) (by omega)
  unfold W4.has W4.sel at this
  rw [show ((i : Int) / 64) = 0 from by omega, show ((i : Int) % 64).toNat = i from by omega] at this
  simpa using this
 constructor
 ·rintro h0 ⟨t, h1, h2, h3⟩
  have := congrArg (fun z => z.getLsbD t) h0
  simp [(hb t h1).2 h2, h3] at this
 ·intro hn
  apply BitVec.eq_of_getLsbD_eq
  intro i hi
  rw [BitVec.getLsbD_and]
  cases h1 : u.a.getLsbD i with
  | false => simp
  | true =>
   cases h2 : to.getLsbD i with
   | false => simp
   | true => exact absurd ⟨i, hi, (hb i hi).1 h1, h2⟩ hn
theorem back_run {x : List Bs} {y : List Q1} {next : List (Q7 × Q0)} (hx : Nx x y next) {n : Int} (hn : 0 ≤ n) (hn2 : n ≤ 24) (holds : List (Bs × Q0)) (to : BitVec 64) (a : Bs) :
 ∃ v : W4, Q36.f n holds next (Wd to) 0 0 0 a = some v.t ∧ v.Rep (fun s => 0 ≤ s ∧ s < n ∧ Meets (Hit x y ⟨s, a⟩) to) := by
 obtain ⟨r, hr, v, rfl, hv⟩ := Q35 (body := fun t_ : Int × Int × Int × Int × Int => Q36.l0b n next (Wd to) 0 0 0 a t_.1 t_.2.1 t_.2.2.1 t_.2.2.2.1 t_.2.2.2.2)
  (fun s => 0 ≤ s.2.2.2.2 ∧ s.2.2.2.2 ≤ n ∧ ∃ v : W4, (s.1, s.2.1, s.2.2.1, s.2.2.2.1) = v.t ∧ v.Rep (fun q => 0 ≤ q ∧ q < s.2.2.2.2 ∧ Meets (Hit x y ⟨q, a⟩) to))
  (fun r => ∃ v : W4, r = .inl v.t ∧ v.Rep (fun s => 0 ≤ s ∧ s < n ∧ Meets (Hit x y ⟨s, a⟩) to)) (fun s => (n - s.2.2.2.2).toNat)
  (fun ⟨w0, w1, w2, w3, i⟩ ⟨a0, a1, v, a2, a3⟩ => by
   dsimp only at a0 a1 a2 a3 ⊢
   simp only [W4.t, Prod.mk.injEq] at a2
   obtain ⟨rfl, rfl, rfl, rfl⟩ := a2
   unfold Q36.l0b
   by_cases hi : i < n
   ·right
    obtain ⟨u, hu, hur⟩ := hx ⟨i, a⟩
    rw [if_pos hi, hu, wrap64 (x := i + 1) (by omega) (by omega)]
    simp only [W4.s, Q97.f, Q154, band0, Option.bind_some, decide_true, Bool.and_true]
    by_cases hz : u.a &&& to = 0#64
    ·rw [if_pos (by rw [hz]; rfl), Q12]
     refine ⟨_, rfl, ⟨by dsimp only; omega, by dsimp only; omega, v, rfl, fun q q0 q1 => ?_⟩, by dsimp only; omega⟩
     rw [a3 q q0 q1]
     have hnm := (Q289 hur to).1 hz
     dsimp only
     constructor
     ·rintro ⟨h1, h2, h3⟩; exact ⟨h1, by omega, h3⟩
     ·rintro ⟨h1, h2, h3⟩
      refine ⟨h1, ?_, h3⟩
      have : q ≠ i := fun h => by subst h; exact hnm h3
      omega
    ·rw [if_neg (by rw [decide_eq_true_eq]; exact fun h => hz (wd_zero.1 h)), Q175, if_pos (by omega)]
     simp only [Option.bind_some, Q12]
     refine ⟨_, rfl, ⟨by dsimp only; omega, by dsimp only; omega, v.put i, rfl, fun q q0 q1 => ?_⟩, by dsimp only; omega⟩
     rw [W4.put_rep a3 a0 (by omega) q q0 q1]
     have hm : Meets (Hit x y ⟨i, a⟩) to := Classical.not_not.1 fun h => hz ((Q289 hur to).2 h)
     dsimp only
     constructor
     ·rintro (⟨h1, h2, h3⟩ | rfl)
      ·exact ⟨h1, by omega, h3⟩
      ·exact ⟨a0, by omega, hm⟩
     ·rintro ⟨h1, h2, h3⟩
      by_cases h : q = i
      ·exact .inr h
      ·exact .inl ⟨h1, by omega, h3⟩
   ·left
    rw [if_neg hi]
    refine ⟨_, rfl, v, rfl, ?_⟩
    have : i = n := by omega
    subst this
    exact a3) (0, 0, 0, 0, 0) ⟨Int.le_refl _, hn, W4.z, rfl, fun q q0 q1 => by
     rw [W4.z_rep q q0 q1]
     dsimp only
     constructor
     ·exact fun h => h.elim
     ·rintro ⟨h1, h2, _⟩; omega⟩
 refine ⟨v, ?_, hv⟩
 unfold Q36.f
 have hl : Q36.l0 n next (Wd to) 0 0 0 a 0 0 0 0 0 = some (.inl v.t) := hr
 rw [hl, Q12]
end Go.Bw
namespace Go.Bw
open Go Go.RowKit Go.Proofs Go.Sort

def Small (e : Q1) : Prop := (0 ≤ e.From ∧ e.From ≤ 1000) ∧ (0 ≤ e.Action ∧ e.Action ≤ 1000) ∧ (0 ≤ e.To ∧ e.To ≤ 1000)
def smallB (e : Q1) : Bool := decide (0 ≤ e.From) && decide (e.From ≤ 1000) && decide (0 ≤ e.Action) && decide (e.Action ≤ 1000) && decide (0 ≤ e.To) && decide (e.To ≤ 1000)
theorem Q339 {e : Q1} : smallB e = true ↔ Small e := by
 unfold smallB Small
 simp [and_assoc]
def diffCmp (x y : Q1) : Int := if x.From - y.From = 0 then if x.Action - y.Action = 0 then x.To - y.To else x.Action - y.Action else x.From - y.From
theorem Q227 {x y : Q1} (hx : Small x) (hy : Small y) : Q29.cmp x y = some (diffCmp x y) := by
 unfold Q29.cmp Q145.f
 unfold Small at hx hy
 rw [Go.Bw.wrap64 (x := x.From - y.From) (by omega) (by omega), Go.Bw.wrap64 (x := x.Action - y.Action) (by omega) (by omega), Go.Bw.wrap64 (x := x.To - y.To) (by omega) (by omega), or_run]
 rfl
theorem diff_lt {x y : Q1} : diffCmp x y < 0 ↔ edgeLt x y := by
 unfold diffCmp edgeLt
 split
 ·split <;> omega
 ·omega
theorem diff_on {xs : List Q1} (h : ∀ x ∈ xs, Small x) : CmpOn Q29.cmp xs := by
 refine ⟨Small, ⟨⟨0, 0, 0⟩, by unfold Small; simp⟩, h, ?_⟩
 have l1 : ∀ x y : {x // Small x}, ltOf (gcf fun x y : {x // Small x} => Q29.cmp x.1 y.1) x y = true ↔ edgeLt x.1 y.1 := fun x y => by
  have hd := Q227 x.2 y.2
  unfold ltOf gcf
  simp [hd, diff_lt]
 have l2 : ∀ x y : {x // Small x}, ltOf (gcf fun x y : {x // Small x} => Q29.cmp x.1 y.1) x y = false ↔ ¬ edgeLt x.1 y.1 := fun x y => by rw [← l1]; simp
 refine ⟨⟨fun x y => by have hd := Q227 x.2 y.2; simp [hd], fun x => ?_, fun x y z h1 h2 => ?_, fun x y z h1 h2 => ?_⟩, fun x y h1 h2 => ?_⟩
 ·rw [l2]; unfold edgeLt; omega
 ·rw [l1] at *; unfold edgeLt at *; omega
 ·rw [l2] at *; unfold edgeLt at *; omega
 ·rw [l2] at *
  obtain ⟨⟨x0, x1, x2⟩, hx⟩ := x
  obtain ⟨⟨y0, y1, y2⟩, hy⟩ := y
  unfold edgeLt at *
  simp at *
  omega
section
variable {α : Type}
def pwC (c : α → α → Option Int) : List α → Bool
 | [] => true
 | x :: xs => xs.all (fun y => match c y x with | some v => decide (0 ≤ v) | none => false) && pwC c xs
theorem pwC_mem {c cc : α → α → Option Int} (h : ∀ x y, Ap (cc x y) (c x y)) : ∀ {a : List α}, pwC cc a = true → a.Pairwise fun x y => (!(ltOf (gcf c)) y x) = true
 | [], _ => List.Pairwise.nil
 | x :: xs, e => by
  unfold pwC at e
  rw [Bool.and_eq_true, List.all_eq_true] at e
  refine List.Pairwise.cons (fun y hy => ?_) (pwC_mem h e.2)
  have := e.1 y hy
  cases hc : cc y x with
  | none => rw [hc] at this; cases this
  | some v =>
   rw [hc] at this
   have hv := h y x v hc
   unfold ltOf gcf
   rw [hv]
   simpa using this
def asisC (c : α → α → Option Int) (a : List α) : Option (List α) := if pwC c a = true then some a else none
theorem Q247 {c cc : α → α → Option Int} (h : ∀ x y, Ap (cc x y) (c x y)) {a r : List α} (e : asisC cc a = some r) : r = a ∧ byCmp c a = a := by
 unfold asisC at e
 split at e
 ·rename_i hp
  exact ⟨(Option.some.inj e).symm, List.mergeSort_of_pairwise (pwC_mem h hp)⟩
 ·cases e
end
def fewC {α : Type} (o : Option (List α)) : Option (List α) := o.bind fun a => if a.length ≤ 1000 then some a else none
theorem few_mem {α : Type} {o : Option (List α)} {r : List α} (h : fewC o = some r) : o = some r ∧ r.length ≤ 1000 := by
 unfold fewC at h
 cases o with
 | none => cases h
 | some a =>
  simp only [Option.bind_some] at h
  split at h
  ·rename_i hl
   obtain rfl := Option.some.inj h
   exact ⟨rfl, hl⟩
  ·cases h
end Go.Bw
namespace Go.Bw
open Go Go.RowKit

section
variable {α : Type} [DecidableEq α]
def dd : List α → List α
 | [] => []
 | [x] => [x]
 | x :: y :: r => if x = y then dd (y :: r) else x :: dd (y :: r)
theorem dd_snoc : ∀ (P : List α) (u v : α), dd (P ++ [u, v]) = if u = v then dd (P ++ [u]) else dd (P ++ [u]) ++ [v]
 | [], u, v => by
  by_cases h : u = v
  ·simp [dd, h]
  ·simp [dd, h]
 | [a], u, v => by
  by_cases h : u = v
  ·subst h; by_cases h2 : a = u <;> simp [dd, h2]
  ·by_cases h2 : a = u <;> simp [dd, h, h2]
 | a :: b :: P, u, v => by
  have ih := dd_snoc (b :: P) u v
  simp only [List.cons_append] at ih ⊢
  rw [dd, dd, ih]
  by_cases h : u = v
  ·rw [if_pos h, if_pos h]
  ·rw [if_neg h, if_neg h]
   by_cases h2 : a = b
   ·rw [if_pos h2, if_pos h2]
   ·rw [if_neg h2, if_neg h2]; rfl
theorem Q187 : ∀ {l : List α} {x : α}, x ∈ dd l ↔ x ∈ l
 | [], x => Iff.rfl
 | [a], x => Iff.rfl
 | a :: b :: r, x => by
  rw [dd]
  by_cases h : a = b
  ·rw [if_pos h, Q187]
   subst h
   simp
  ·rw [if_neg h, List.mem_cons, Q187, ← List.mem_cons]
theorem dd_len : ∀ (l : List α), (dd l).length ≤ l.length
 | [] => Nat.le_refl _
 | [a] => Nat.le_refl _
 | a :: b :: r => by
  have ih := dd_len (b :: r)
  rw [dd]
  split
  ·simp only [List.length_cons] at ih ⊢; omega
  ·simp only [List.length_cons] at ih ⊢; omega
theorem dd_rise {lt : α → α → Prop} (ht : ∀ x y, ¬ lt x y → ¬ lt y x → x = y) : ∀ {l : List α}, l.Pairwise (fun x y => ¬ lt y x) → (dd l).Pairwise lt
 | [], _ => List.Pairwise.nil
 | [a], _ => List.pairwise_singleton _ _
 | a :: b :: r, h => by
  rw [List.pairwise_cons] at h
  have ih := dd_rise ht h.2
  rw [dd]
  by_cases e : a = b
  ·rw [if_pos e]; exact ih
  ·rw [if_neg e, List.pairwise_cons]
   refine ⟨fun y hy => ?_, ih⟩
   have hy' := Q187.1 hy
   by_cases hl : lt a y
   ·exact hl
   ·have e1 : a = y := ht _ _ hl (h.1 y hy')
    subst e1
    exfalso
    rcases List.mem_cons.1 hy' with q | q
    ·exact e q
    ·have h2 := h.2
     rw [List.pairwise_cons] at h2
     have := h2.1 a q
     by_cases hab : lt a b
     ·exact this hab
     ·exact e (ht _ _ hab (h.1 b (.head _)))
end
theorem Q193 {u v : Q1} : (decide (u.From = v.From) && (decide (u.Action = v.Action) && (decide (u.To = v.To) && true))) = true ↔ u = v := by
 cases u
 cases v
 simp [Q1.mk.injEq]
theorem take_two {a : List Q1} {k : Int} (h0 : 1 ≤ k) (h1 : k < (a.length : Int)) : a.take (k.toNat + 1) = a.take (k.toNat - 1) ++ [gt a (k - 1), gt a k] ∧ a.take k.toNat = a.take (k.toNat - 1) ++ [gt a (k - 1)] := by
 have e1 := Q68 (xs := a) (i := k) (by omega) h1
 have e2 := Q68 (xs := a) (i := k - 1) (by omega) (by omega)
 have h2 : a.take k.toNat = a.take (k.toNat - 1) ++ [gt a (k - 1)] := by
  have : k.toNat = (k.toNat - 1) + 1 := by omega
  rw [this, List.take_add_one]
  rw [show (k - 1).toNat = k.toNat - 1 from by omega] at e2
  simp [e2]
 refine ⟨?_, h2⟩
 rw [List.take_add_one, e1, h2, List.append_assoc]
 rfl
theorem dd_take {a : List Q1} {k : Int} (h0 : 1 ≤ k) (h1 : k < (a.length : Int)) : dd (a.take (k.toNat + 1)) = if gt a (k - 1) = gt a k then dd (a.take k.toNat) else dd (a.take k.toNat) ++ [gt a k] := by
 obtain ⟨e1, e2⟩ := take_two h0 h1
 rw [e1, e2]
 exact dd_snoc _ _ _
theorem Q332 (a : List Q1) (ha : (a.length : Int) ≤ 1000000) {k : Int} (h0 : 1 ≤ k) (h1 : k < (a.length : Int)) (hd : dd (a.take (k.toNat + 1)) = a.take k.toNat) :
 ∃ X i, Q28.l1 a k a k 1 = some (.inl (X, i)) ∧ 0 ≤ i ∧ i ≤ (a.length : Int) ∧ X.length = a.length ∧ X.take i.toNat = dd a := by
 obtain ⟨r, hr, X, i, rfl, h⟩ := Q35 (body := fun t_ : (List Q1) × Int × Int => Q28.l1b a k t_.1 t_.2.1 t_.2.2)
  (fun s => 1 ≤ s.2.2 ∧ k + s.2.2 ≤ (a.length : Int) ∧ k ≤ s.2.1 ∧ s.2.1 ≤ k + s.2.2 - 1 ∧ s.1.length = a.length ∧ s.1.take s.2.1.toNat = dd (a.take (k + s.2.2).toNat) ∧ ∀ j : Int, k + s.2.2 - 1 ≤ j → j < (a.length : Int) → gt s.1 j = gt a j)
  (fun r => ∃ X i, r = .inl (X, i) ∧ 0 ≤ i ∧ i ≤ (a.length : Int) ∧ X.length = a.length ∧ X.take i.toNat = dd a) (fun s => ((a.length : Int) - s.2.2).toNat) (fun ⟨X, i, q⟩ ⟨q0, q1, i0, i1, hX, hT, hG⟩ => by
   dsimp only at q0 q1 i0 i1 hX hT hG ⊢
   have hsub : ((a.length - k.toNat : Nat) : Int) = (a.length : Int) - k := by omega
   unfold Q28.l1b
   rw [hsub]
   by_cases hq : q < (a.length : Int) - k
   ·right
    have w1 : IntKind.i64.wrap (q - 1) = q - 1 := wrap64 (by omega) (by omega)
    have w2 : IntKind.i64.wrap (q + 1) = q + 1 := wrap64 (by omega) (by omega)
    have w3 : IntKind.i64.wrap (i + 1) = i + 1 := wrap64 (by omega) (by omega)
    have g1 := hG (k + q) (by omega) (by omega)
    have g2 := hG (k + (q - 1)) (by omega) (by omega)
    have hdt := dd_take (a := a) (k := k + q) (by omega) (by omega)
    rw [show (k + q).toNat + 1 = (k + (q + 1)).toNat from by omega, show k + q - 1 = k + (q - 1) from by omega] at hdt
    rw [if_pos hq, if_pos ⟨by omega, hq⟩, w1, if_pos ⟨by omega, by omega⟩, g1, g2, w2]
    by_cases he : gt a (k + q) = gt a (k + (q - 1))
    ·rw [if_pos (Q193.2 he), Q12]
     refine ⟨_, rfl, ⟨by dsimp only; omega, by dsimp only; omega, i0, by dsimp only; omega, hX, ?_, fun j j0 j1 => hG j (by dsimp only at j0; omega) j1⟩, by dsimp only; omega⟩
     dsimp only
     rw [hdt, if_pos he.symm]
     exact hT
    ·rw [if_neg (fun h => he (Q193.1 h)), if_pos ⟨by omega, by omega⟩, Q12, w3]
     have hi : 0 ≤ i ∧ i < (X.length : Int) := by omega
     refine ⟨_, rfl, ⟨by dsimp only; omega, by dsimp only; omega, by dsimp only; omega, by dsimp only; omega, by dsimp only; rw [Q87]; exact hX, ?_, fun j j0 j1 => ?_⟩, by dsimp only; omega⟩
     ·dsimp only
      rw [hdt, if_neg (fun h => he h.symm), ← hT]
      have : (st X i ⟨(gt a (k + q)).From, (gt a (k + q)).Action, (gt a (k + q)).To⟩).take (i + 1).toNat = X.take i.toNat ++ [gt a (k + q)] := by
       unfold st
       rw [show (i + 1).toNat = i.toNat + 1 from by omega, List.take_add_one, List.take_set_of_le (Nat.le_refl _), List.getElem?_set_self (by omega)]
       rfl
      exact this
     ·dsimp only at j0 ⊢
      rw [Q74 hi.1 hi.2 (by omega), if_neg (by omega)]
      exact hG j (by omega) j1
   ·left
    rw [if_neg hq]
    refine ⟨_, rfl, X, i, rfl, by omega, by omega, hX, ?_⟩
    rw [hT, List.take_of_length_le (by omega)]) (a, k, 1) ⟨by dsimp only; omega, by dsimp only; omega, by dsimp only; omega, by dsimp only; omega, rfl, by
    dsimp only
    rw [show (k + 1).toNat = k.toNat + 1 from by omega, hd], fun j _ _ => rfl⟩
 exact ⟨X, i, hr, h⟩
theorem Q313 (a : List Q1) (ha : (a.length : Int) ≤ 1000000) : Q28.f a = some (dd a) := by
 unfold Q28.f
 by_cases h2 : (a.length : Int) < 2
 ·rw [if_pos h2]
  have e : ∀ l : List Q1, l.length < 2 → dd l = l := fun l hl => by
   cases l with
   | nil => rfl
   | cons x r =>
    cases r with
    | nil => rfl
    | cons y r => simp only [List.length_cons] at hl; omega
  rw [e a (by omega)]
 ·rw [if_neg h2]
  obtain ⟨r, hr, hq⟩ := Q35 (body := fun t_ : Int => Q28.l0b a t_) (fun k => 1 ≤ k ∧ k ≤ (a.length : Int) ∧ dd (a.take k.toNat) = a.take k.toNat)
   (fun r => (r = .inl () ∧ dd a = a) ∨ r = .inr (dd a)) (fun k => ((a.length : Int) - k).toNat) (fun k ⟨k0, k1, kd⟩ => by
    have hdt : k < (a.length : Int) → _ := fun h => dd_take (a := a) (k := k) k0 h
    simp only [Q28.l0b]
    by_cases hk : k < (a.length : Int)
    ·have w1 : IntKind.i64.wrap (k - 1) = k - 1 := wrap64 (by omega) (by omega)
     have w2 : IntKind.i64.wrap (k + 1) = k + 1 := wrap64 (by omega) (by omega)
     have hdt := hdt hk
     rw [if_pos hk, if_pos ⟨by omega, hk⟩, w1, if_pos ⟨by omega, by omega⟩]
     by_cases he : gt a k = gt a (k - 1)
     ·left
      rw [if_pos he.symm, kd] at hdt
      obtain ⟨X, i, hX, i0, i1, hXl, hT⟩ := Q332 a ha k0 hk hdt
      rw [if_pos (Q193.2 he), if_pos ⟨by omega, by omega⟩, hX, Q12]
      dsimp only
      rw [if_pos ⟨i0, i1⟩]
      refine ⟨_, rfl, .inr ?_⟩
      rw [List.take_append_of_le_length (by rw [List.length_take]; omega), List.take_take, Nat.min_self, hT]
     ·right
      rw [if_neg (fun h => he h.symm), kd] at hdt
      rw [if_neg (fun h => he (Q193.1 h)), w2]
      refine ⟨_, rfl, ⟨by omega, by omega, ?_⟩, by omega⟩
      rw [show (k + 1).toNat = k.toNat + 1 from by omega, hdt, List.take_add_one, Q68 (by omega) hk]
      rfl
    ·left
     rw [if_neg hk]
     refine ⟨_, rfl, .inl ⟨rfl, ?_⟩⟩
     rwa [List.take_of_length_le (by omega)] at kd) 1 ⟨by decide, by omega, by
     cases a with
     | nil => rfl
     | cons x r => simp [dd]⟩
  have hl : Q28.l0 a 1 = some r := hr
  rcases hq with ⟨rfl, h⟩ | rfl
  ·rw [hl, Q12, h]
  ·rw [hl]; rfl
end Go.Bw
namespace Go.Bw
open Go Go.RowKit
noncomputable def Q88.fc (fu : Nat) (a0 : List Int) : Option (List Int) := soloC a0
theorem Q88.f_ap (fu : Nat) (a0 : List Int) : Ap (Q88.fc fu a0) (Q88.f a0) := fun r h => by
 obtain ⟨rfl, h⟩ := Q235 h
 rcases h with rfl | ⟨x, rfl⟩ <;> simp [Q88.f]
noncomputable def Q37.fc (fu : Nat) (L : List Q8) (O : Option Q5) (u : Int) (D : List Bs) (G : List Q1) (q : List Q2) (I : List Q10) (J : List (Bs × Bool)) : Option ((List Q2) × (Option Q5) × (List Q8)) :=
 (Q102.f L O u D G q I J).bind fun p =>
 jn (
 if p.1.isNone = true then
 if 8 ≤ (q.length : Int) then
 (Q20.f p.2.1 p.1 u D G q I J p.2.2.1 p.2.2.2.1 p.2.2.2.2.1 p.2.2.2.2.2 10).bind fun U =>
 some (.inl U)
 else
 (Q138.f q p.2.2.1 p.2.2.2.1 p.2.2.2.2.1 p.2.2.2.2.2).bind fun V =>
 if V = true then
 (Q20.f p.2.1 p.1 u D G q I J p.2.2.1 p.2.2.2.1 p.2.2.2.2.1 p.2.2.2.2.2 9).bind fun X =>
 some (.inl X)
 else
 some (.inl p.1)
 else
 up (some (q, p.1, p.2.1))) (fun (Z : Option Q5) =>
 jn (Q37.l0 u D G q I J ([] : List Int) Z p.2.1) (fun (s_ : (Option Q5) × (List Int) × (List Q8)) =>
 (Q88.fc fu s_.2.1).bind fun a0 =>
 if (q.length + 1) * 40 ≤ 140737488355328 then
 some ((q ++ [(⟨p.2.2.2.2.1, a0⟩ : Q2)]), s_.1, s_.2.2)
 else none))
theorem Q37.f_ap (fu : Nat) (p : List Q8) (q : Option Q5) (u : Int) (D : List Bs) (G : List Q1) (I : List Q2) (J : List Q10) (L : List (Bs × Bool)) : Ap (Q37.fc fu p q u D G I J L) (Q37.f p q u D G I J L) := by
 unfold Q37.fc Q37.f
 repeat' with_reducible first | apply Q88.f_ap | exact Ap.none | apply Ap.jn | apply Ap.ite | apply Ap.up | apply Ap.bind | exact Ap.refl _ | intro
noncomputable def Q90.fc (fu : Nat) (a0 : List Bs) : Option (List Bs) := soloC a0
theorem Q90.f_ap (fu : Nat) (a0 : List Bs) : Ap (Q90.fc fu a0) (Q90.f a0) := fun r h => by
 obtain ⟨rfl, h⟩ := Q235 h
 rcases h with rfl | ⟨x, rfl⟩ <;> simp [Q90.f]
noncomputable def Q34.fc (fu : Nat) (a0 : List Q1) : Option (List Q1) := fewC (asisC (fun x y => Q99.f x.From x.Action x.To y.From y.Action y.To) a0)
theorem Q34.f_ap (fu : Nat) (a0 : List Q1) : Ap (Q34.fc fu a0) (Q34.f a0) := fun r h => by
 unfold Q34.fc at h
 obtain ⟨h, hl⟩ := few_mem h
 obtain ⟨rfl, hb⟩ := Q247 (c := Q34.cmp) (fun x y => Ap.refl _) h
 unfold Q34.f
 rw [if_pos ⟨by omega, edge_tot⟩, hb]
noncomputable def Q43.fc (fu : Nat) (a0 : List Q2) : Option (List Q2) := soloC a0
theorem Q43.f_ap (fu : Nat) (a0 : List Q2) : Ap (Q43.fc fu a0) (Q43.f a0) := fun r h => by
 obtain ⟨rfl, h⟩ := Q235 h
 rcases h with rfl | ⟨x, rfl⟩ <;> simp [Q43.f, byCmp, CmpParts, prop_swo]
noncomputable def Q31.fc (fu : Nat) (Z : List Q8) (a0 : Option Q5) (q : Int) (u : List Bs) (D : List Q1) (G : List Q2) (I : List Q10) (J : List (Bs × Bool)) : Option ((List Q2) × (List Q1) × (List Bs) × Int) :=
 orderedC J (fun (t_ : (List Bs)) (z_ : Bs × Bool) => Q31.l0b  z_ t_) u (fun L => L) (fun (O : List Bs) =>
 (Q90.fc fu O).bind fun p =>
 jn (Q31.l1 I p D 0) (fun (U : List Q1) =>
 (Q34.fc fu U).bind fun V =>
 (Q43.fc fu G).bind fun X =>
 some (X, V, p, q)))
theorem Q31.f_ap (fu : Nat) (p : List Q8) (q : Option Q5) (u : Int) (D : List Bs) (G : List Q1) (I : List Q2) (J : List Q10) (L : List (Bs × Bool)) : Ap (Q31.fc fu p q u D G I J L) (Q31.f p q u D G I J L) := by
 unfold Q31.fc Q31.f
 repeat' with_reducible first | apply Q90.f_ap | apply Q34.f_ap | apply Q43.f_ap | apply Ap.jn | apply Ap.ordered | apply Ap.bind | exact Ap.refl _ | intro
noncomputable def Q26.l0bc (fu : Nat) (G : (Option Q5) × (List Q8) × Int) (I : Option Q5) (q : List Q2) (u : List Q10) (D : List (Bs × Bool)) (U : List Q8) : Option (((Option Q5) × (List Q2) × (List Q10) × (List (Bs × Bool)) × (List Q8)) ⊕ (((Option Q5) × (List Q2) × (List Q10) × (List (Bs × Bool)) × (List Q8)) ⊕ ((Option Q5) × (List Bs) × (List Q1) × (List Q2) × Int))) :=
 if I.isNone = true then
 (Q62.f U I G.2.2 ([] : List Bs) ([] : List Q1) q u D).bind fun J =>
 if (0 : Int) ≤ 0 ∧ 0 < (J.length : Int) then
 if (gt J 0).Kind = 0 then
 dn (.inl (I, q, u, D, J))
 else
 (Q49.f J I G.2.2 ([] : List Bs) ([] : List Q1) q u D 2).bind fun p =>
 if p.1.isNone = true then
 if bseq p.2.2.2.2.1 ([101, 100, 103, 101] : Bs) = true then
 (Q140.f p.2.1 p.1 G.2.2 ([] : List Bs) ([] : List Q1) q u D p.2.2.1 p.2.2.2.1 p.2.2.2.2.1 p.2.2.2.2.2).bind fun L =>
 nx (L.2.2.1, q, L.1, L.2.1, L.2.2.2)
 else
 if bseq p.2.2.2.2.1 ([109, 97, 114, 107] : Bs) = true then
 (Q37.fc fu p.2.1 p.1 G.2.2 ([] : List Bs) ([] : List Q1) q u D).bind fun O =>
 nx (O.2.1, O.1, u, D, O.2.2)
 else
 (Q20.f p.2.1 p.1 G.2.2 ([] : List Bs) ([] : List Q1) q u D p.2.2.1 p.2.2.2.1 p.2.2.2.2.1 p.2.2.2.2.2 7).bind fun V =>
 nx (V, q, u, D, p.2.1)
 else
 nx (p.1, q, u, D, p.2.1)
 else none
 else
 dn (.inl (I, q, u, D, U))
theorem Q26.l0b_ap (fu : Nat) (p : (Option Q5) × (List Q8) × Int) (q : Option Q5) (u : List Q2) (D : List Q10) (G : List (Bs × Bool)) (I : List Q8) : Ap (Q26.l0bc fu p q u D G I) (Q26.l0b p q u D G I) := by
 unfold Q26.l0bc Q26.l0b
 repeat' with_reducible first | apply Q37.f_ap | exact Ap.none | apply Ap.ite | apply Ap.bind | exact Ap.refl _ | intro
noncomputable def Q26.l0c (fu : Nat) (p : (Option Q5) × (List Q8) × Int) (q : Option Q5) (u : List Q2) (D : List Q10) (G : List (Bs × Bool)) (I : List Q8) : Option (((Option Q5) × (List Q2) × (List Q10) × (List (Bs × Bool)) × (List Q8)) ⊕ ((Option Q5) × (List Bs) × (List Q1) × (List Q2) × Int)) := iterC fu (fun t_ : (Option Q5) × (List Q2) × (List Q10) × (List (Bs × Bool)) × (List Q8) => Q26.l0bc fu p t_.1 t_.2.1 t_.2.2.1 t_.2.2.2.1 t_.2.2.2.2) (q, u, D, G, I)
theorem Q26.l0_ap (fu : Nat) (p : (Option Q5) × (List Q8) × Int) (q : Option Q5) (u : List Q2) (D : List Q10) (G : List (Bs × Bool)) (I : List Q8) : Ap (Q26.l0c fu p q u D G I) (Q26.l0 p q u D G I) := by
 unfold Q26.l0c Q26.l0
 repeat' with_reducible first | apply Q26.l0b_ap | apply Ap.iter | exact Ap.refl _ | intro
noncomputable def Q26.fc (fu : Nat) (a0 : Bs) : Option ((Option Q5) × (List Bs) × (List Q1) × (List Q2) × Int) :=
 (Q75.f a0).bind fun u =>
 if u.1.isNone = true then
 (Q136.f u.2 (none : Option Q5) 0 ([] : List Bs) ([] : List Q1) ([] : List Q2) ([] : List Q10) ([] : List (Bs × Bool))).bind fun p =>
 jn (Q26.l0c fu p p.1 ([] : List Q2) ([] : List Q10) ([] : List (Bs × Bool)) p.2.1) (fun (s_ : (Option Q5) × (List Q2) × (List Q10) × (List (Bs × Bool)) × (List Q8)) =>
 if s_.1.isNone = true then
 (Q31.fc fu s_.2.2.2.2 s_.1 p.2.2 ([] : List Bs) ([] : List Q1) s_.2.1 s_.2.2.1 s_.2.2.2.1).bind fun q =>
 some (none, q.2.2.1, q.2.1, q.1, q.2.2.2)
 else
 some ((some (⟨(s_.1.getD default).At, (s_.1.getD default).Err⟩ : Q5)), ([] : List Bs), ([] : List Q1), ([] : List Q2), 0))
 else
 some (u.1, ([] : List Bs), ([] : List Q1), ([] : List Q2), 0)
theorem Q26.f_ap (fu : Nat) (a0 : Bs) : Ap (Q26.fc fu a0) (Q26.f a0) := by
 unfold Q26.fc Q26.f
 repeat' with_reducible first | apply Q26.l0_ap | apply Q31.f_ap | exact Ap.none | apply Ap.jn | apply Ap.ite | apply Ap.bind | exact Ap.refl _ | intro
noncomputable def Q29.fc (fu : Nat) (a0 : List Q1) : Option (List Q1) := fewC (if a0.all smallB = true then (asisC (fun x y => Q145.f x.From x.Action x.To y.From y.Action y.To) a0) else none)
theorem Q29.f_ap (fu : Nat) (a0 : List Q1) : Ap (Q29.fc fu a0) (Q29.f a0) := fun r h => by
 unfold Q29.fc at h
 obtain ⟨h, hl⟩ := few_mem h
 split at h
 rotate_left
 ·cases h
 rename_i hs
 obtain ⟨rfl, hb⟩ := Q247 (c := Q29.cmp) (fun x y => Ap.refl _) h
 unfold Q29.f
 rw [if_pos ⟨by omega, diff_on fun x hx => Q339.1 (List.all_eq_true.1 hs x hx)⟩, hb]
noncomputable def Q15.fc (fu : Nat) (G : Int) (q : List Bs) (u : List Q1) (D : List Q2) : Option ((List Q2) × (List Q1) × (List Bs) × (List Int) × Int) :=
 (Q33.f G q u D).bind fun p =>
 if (p.length : Int) = 0 then
 some (([] : List Q2), ([] : List Q1), ([] : List Bs), ([] : List Int), 0)
 else
 (Q41.f p).bind fun I =>
 (Q89.f q).bind fun J =>
 jn (Q15.l0 u p ([] : List Q1) 0) (fun (L : List Q1) =>
 (Q29.fc fu L).bind fun O =>
 (Q28.f O).bind fun U =>
 jn (Q15.l1 D p ([] : List Q2) 0) (fun (V : List Q2) =>
 some (V, U, J, p, IntKind.i64.wrap (I + 1))))
theorem Q15.f_ap (fu : Nat) (p : Int) (q : List Bs) (u : List Q1) (D : List Q2) : Ap (Q15.fc fu p q u D) (Q15.f p q u D) := by
 unfold Q15.fc Q15.f
 repeat' with_reducible first | apply Q29.f_ap | apply Ap.jn | apply Ap.ite | apply Ap.bind | exact Ap.refl _ | intro
noncomputable def Q85.fc (fu : Nat)  : Option Bool :=
 (Q26.fc fu ([115, 116, 97, 116, 101, 115, 32, 52, 10, 101, 100, 103, 101, 32, 48, 32, 97, 32, 49, 10, 101, 100, 103, 101, 32, 48, 32, 97, 32, 50, 10, 101, 100, 103, 101, 32, 49, 32, 97, 32, 51, 10, 101, 100, 103, 101, 32, 50, 32, 97, 32, 51, 10, 109, 97, 114, 107, 32, 112, 32, 51, 10] : Bs)).bind fun q =>
 (Q15.fc fu q.2.2.2.2 q.2.1 q.2.2.1 q.2.2.2.1).bind fun p =>
 jn (
 if q.1.isNone = true then
 some (.inl (decide ((p.2.2.2.1.length : Int) = 4)))
 else
 some (.inl false)) (fun (u : Bool) =>
 jn (
 if u = true then
 if (0 : Int) ≤ 2 ∧ 2 < (p.2.2.2.1.length : Int) then
 some (.inl (decide (gt p.2.2.2.1 2 = 1)))
 else none
 else
 some (.inl false)) (fun (D : Bool) =>
 jn (
 if D = true then
 if (0 : Int) ≤ 3 ∧ 3 < (p.2.2.2.1.length : Int) then
 some (.inl (decide (gt p.2.2.2.1 3 = 2)))
 else none
 else
 some (.inl false)) (fun (G : Bool) =>
 jn (
 if G = true then
 some (.inl (decide (p.2.2.2.2 = 3)))
 else
 some (.inl false)) (fun (I : Bool) =>
 jn (
 if I = true then
 some (.inl (decide ((p.2.1.length : Int) = 2)))
 else
 some (.inl false)) (fun (J : Bool) =>
 some J)))))
theorem Q85.f_ap (fu : Nat)  : Ap (Q85.fc fu ) (Q85.f ) := by
 unfold Q85.fc Q85.f
 repeat' with_reducible first | apply Q26.f_ap | apply Q15.f_ap | exact Ap.none | apply Ap.jn | apply Ap.ite | apply Ap.bind | exact Ap.refl _ | intro
theorem Q314 : Q85.f = some true := Q85.f_ap 100 _ (by kernel_rfl)
end Go.Bw
namespace Go.Bw
open Go Go.RowKit

theorem gt_map {α β : Type} [Inhabited α] [Inhabited β] {xs : List α} (f : α → β) {i : Int} (h0 : 0 ≤ i) (h1 : i < (xs.length : Int)) : gt (xs.map f) i = f (gt xs i) := by
 have h := Q68 h0 h1
 have h2 : (xs.map f)[i.toNat]? = some (f (gt xs i)) := by rw [List.getElem?_map, h]; rfl
 have := Q95 h2
 rwa [show ((i.toNat : Nat) : Int) = i from by omega] at this
theorem rise_mapp {α β : Type} [Inhabited α] [Inhabited β] {lt : α → α → Prop} {lt' : β → β → Prop} {a : List α} (f : α → β) (ha : Rise lt a) (hf : ∀ u v, lt u v → lt' (f u) (f v)) : Rise lt' (a.map f) := fun i i0 i1 => by
 rw [List.length_map] at i1
 rw [gt_map f (by omega) (by omega), gt_map f (by omega) i1]
 exact hf _ _ (ha i i0 i1)
theorem Q284 {α β ρ : Type} [Inhabited α] {L : List α} (f : α → β) {body : List β × Int → Option ((List β × Int) ⊕ (List β ⊕ ρ))} (hL : (L.length : Int) ≤ 1000000) (acc : List β)
 (h1 : ∀ (a : List β) (i : Int), 0 ≤ i → i < (L.length : Int) → a.length = acc.length + i.toNat → body (a, i) = some (.inl (a ++ [f (gt L i)], i + 1))) (h2 : ∀ (a : List β) (i : Int), ¬ i < (L.length : Int) → body (a, i) = some (.inr (.inl a))) :
 iter body (acc, 0) = some (.inl (acc ++ L.map f)) := by
 have key : ∀ (q : Nat) (i : Int), 0 ≤ i → (L.length : Int) - i = q → iter body (acc ++ (L.take i.toNat).map f, i) = some (.inl (acc ++ L.map f)) := fun q => by
  induction q with
  | zero =>
   intro i i0 iq
   rw [Q174 (h2 _ i (by omega)), List.take_of_length_le (by omega)]
  | succ q ih =>
   intro i i0 iq
   have hi : i < (L.length : Int) := by omega
   rw [Q179 (h1 _ i i0 hi (by simp; omega))]
   have := ih (i + 1) (by omega) (by omega)
   rw [show (i + 1).toNat = i.toNat + 1 from by omega, List.take_add_one, Q68 i0 hi] at this
   simpa using this
 have := key L.length 0 (by decide) (by omega)
 simpa using this
section
variable {n : Int} {x : List Bs} {y : List Q1} {z : List Q2}
def side (n s a : Int) : Int := if s < n then a else a + n
end
theorem Q291 {n : Int} (hn : n ≤ 24) {S : List Int} (h : StatesS n S) : S.length ≤ 24 := by
 have key : ∀ k : Nat, k < S.length → (k : Int) ≤ gt S k := fun k => by
  induction k with
  | zero => intro hk; exact (h.1 _ (Q48 (by omega) (by omega))).1
  | succ k ih =>
   intro hk
   have h1 := ih (by omega)
   have h2 := h.2 ((k + 1 : Nat) : Int) (by omega) (by omega)
   rw [show ((k + 1 : Nat) : Int) - 1 = k from by omega] at h2
   have h2' : gt S (k : Int) < gt S ((k + 1 : Nat) : Int) := h2
   omega
 by_cases h0 : S.length = 0
 ·omega
 ·have h1 := key (S.length - 1) (by omega)
  have h2 := (h.1 _ (Q48 (xs := S) (i := ((S.length - 1 : Nat) : Int)) (by omega) (by omega))).2
  omega
end Go.Bw
namespace Go.Bw
open Go Go.RowKit Go.Proofs Go.Sort

theorem edge_tri : ∀ u v : Q1, ¬ edgeLt u v → ¬ edgeLt v u → u = v := fun u v h1 h2 => by
 unfold edgeLt at h1 h2
 cases u
 cases v
 simp only [Q1.mk.injEq] at *
 omega
open Classical in
theorem sort2_run {xs : List Q1} (hl : xs.length ≤ 1000000) (h : ∀ e ∈ xs, Small e) : ∃ L, Q29.f xs = some L ∧ L.Perm xs ∧ L.Pairwise (fun u v => ¬ edgeLt v u) := by
 have hmap : (xs.attachWith Small h).map (·.1) = xs := by simp
 let le2 : Q1 → Q1 → Bool := fun u v => !decide (edgeLt v u)
 obtain ⟨s1, hs1⟩ : ∃ s1 : Q1 → Q1 → Bool, s1 = fun u v => !(ltOf (gcf Q29.cmp)) v u := ⟨_, rfl⟩
 obtain ⟨s2, hs2⟩ : ∃ s2 : Q1 → Q1 → Bool, s2 = le2 := ⟨_, rfl⟩
 have hle : (fun u v : {e // Small e} => s1 u.1 v.1) = fun u v => s2 u.1 v.1 := by
  funext u v
  have hd := Q227 v.2 u.2
  rw [hs1, hs2]
  show (!(decide ((Q29.cmp v.1 u.1).getD 0 < 0))) = !decide (edgeLt v.1 u.1)
  rw [hd]
  simp [diff_lt]
 have e1 := List.map_mergeSort (f := fun e : {e // Small e} => e.1) (r := fun u v => s1 u.1 v.1) (s := s1) (l := xs.attachWith Small h) (fun a _ b _ => rfl)
 have e2 := List.map_mergeSort (f := fun e : {e // Small e} => e.1) (r := fun u v => s2 u.1 v.1) (s := s2) (l := xs.attachWith Small h) (fun a _ b _ => rfl)
 rw [hle, hmap] at e1
 rw [hmap] at e2
 have e3 : byCmp Q29.cmp xs = xs.mergeSort le2 := by
  have e4 : byCmp Q29.cmp xs = xs.mergeSort s1 := by rw [hs1]; rfl
  rw [e4, ← e1, e2, hs2]
 refine ⟨xs.mergeSort le2, ?_, List.mergeSort_perm _ _, ?_⟩
 ·unfold Q29.f
  rw [if_pos ⟨by omega, diff_on h⟩, e3]
 ·have := List.pairwise_mergeSort (le := le2) (fun a b c h1 h2 => by
   simp only [le2, Bool.not_eq_true', decide_eq_false_iff_not] at *
   unfold edgeLt at *
   omega) (fun a b => by
   simp only [le2, Bool.or_eq_true, Bool.not_eq_true', decide_eq_false_iff_not]
   unfold edgeLt
   omega) xs
  exact this.imp fun {u v} q => by simpa [le2] using q
theorem max_run {c : List Int} (hl : 1 ≤ c.length) (hl2 : (c.length : Int) ≤ 1000000) : ∃ M, Q41.f c = some M ∧ M ∈ c ∧ ∀ v ∈ c, v ≤ M := by
 obtain ⟨r, hr, M, rfl, h1, h2⟩ := Q35 (body := fun t_ : Int × Int => Q41.l0b c t_.1 t_.2) (fun s => 1 ≤ s.2 ∧ s.2 ≤ (c.length : Int) ∧ s.1 ∈ c ∧ ∀ j : Int, 0 ≤ j → j < s.2 → gt c j ≤ s.1)
  (fun r => ∃ M, r = .inl M ∧ M ∈ c ∧ ∀ v ∈ c, v ≤ M) (fun s => ((c.length : Int) - s.2).toNat) (fun ⟨M, i⟩ ⟨i0, i1, hm, hj⟩ => by
   dsimp only at i0 i1 hm hj ⊢
   simp only [Q41.l0b]
   by_cases hi : i < (c.length : Int)
   ·right
    rw [if_pos hi, if_pos ⟨by omega, hi⟩, wrap64 (x := i + 1) (by omega) (by omega)]
    refine ⟨_, rfl, ⟨by dsimp only; omega, by dsimp only; omega, ?_, fun j j0 j1 => ?_⟩, by dsimp only; omega⟩
    ·dsimp only
     split
     ·exact Q48 (by omega) hi
     ·exact hm
    ·dsimp only at j1 ⊢
     by_cases hji : j = i
     ·subst hji; split <;> omega
     ·have := hj j j0 (by omega)
      split <;> omega
   ·left
    rw [if_neg hi]
    refine ⟨_, rfl, M, rfl, hm, fun v hv => ?_⟩
    obtain ⟨q, hq, rfl⟩ := List.getElem_of_mem hv
    have := hj q (by omega) (by omega)
    rwa [Q95 (List.getElem?_eq_getElem hq)] at this) (gt c 0, 1) ⟨by dsimp only; omega, by dsimp only; omega, Q48 (by decide) (by omega), fun j j0 j1 => by
    dsimp only at j1 ⊢
    rw [show j = 0 from by omega]
    exact Int.le_refl _⟩
 refine ⟨M, ?_, h1, h2⟩
 unfold Q41.f
 have hl0 : Q41.l0 c (gt c 0) 1 = some (.inl M) := hr
 rw [if_neg (by omega), if_pos ⟨by decide, by omega⟩, hl0, Q12]
def qE (c : List Int) (e : Q1) : Q1 := ⟨gt c e.From, e.Action, gt c e.To⟩
def qW (c : List Int) (S : List Int) : W4 := S.foldl (fun u t => putc u (gt c t)) W4.z
def qP (c : List Int) (p : Q2) : Q2 := ⟨p.Name, (qW c p.States).list⟩
section
variable {n : Int} {x : List Bs} {y : List Q1} {z : List Q2}
theorem q2_run (R : RightS n x y z) {c : List Int} (hl : (c.length : Int) = n) {i : Int} (i0 : 0 ≤ i) (i1 : i < (z.length : Int)) :
 Q15.l2 z c i 0 0 0 0 0 = some (.inl (qW c (gt z i).States).t) := by
 have hP := (R.pr _ (Q48 i0 i1)).2
 have hfew := Q291 R.n1 hP
 have key : ∀ (q k : Nat), k + q = (gt z i).States.length → iter (fun t_ : Int × Int × Int × Int × Int => Q15.l2b z c i t_.1 t_.2.1 t_.2.2.1 t_.2.2.2.1 t_.2.2.2.2)
  (Wd (qW c ((gt z i).States.take k)).a, Wd (qW c ((gt z i).States.take k)).b, Wd (qW c ((gt z i).States.take k)).c, Wd (qW c ((gt z i).States.take k)).d, (k : Int)) = some (.inl (qW c (gt z i).States).t) := fun q => by
  induction q with
  | zero =>
   intro k hk
   refine Q174 ?_
   simp only [Q15.l2b]
   rw [if_neg (by omega), List.take_of_length_le (by omega)]
   rfl
  | succ q ih =>
   intro k hk
   have hlt : (k : Int) < ((gt z i).States.length : Int) := by omega
   have hm := hP.1 _ (Q48 (xs := (gt z i).States) (i := (k : Int)) (by omega) hlt)
   have hs : qW c ((gt z i).States.take (k + 1)) = putc (qW c ((gt z i).States.take k)) (gt c (gt (gt z i).States (k : Int))) := by
    unfold qW
    have := Q68 (xs := (gt z i).States) (i := (k : Int)) (by omega) hlt
    rw [List.take_add_one, show ((k : Int).toNat) = k from by omega] at *
    rw [this]
    simp [List.foldl_append]
   have hb : Q15.l2b z c i (Wd (qW c ((gt z i).States.take k)).a) (Wd (qW c ((gt z i).States.take k)).b) (Wd (qW c ((gt z i).States.take k)).c) (Wd (qW c ((gt z i).States.take k)).d) (k : Int) = some (.inl (Wd (qW c ((gt z i).States.take (k + 1))).a, Wd (qW c ((gt z i).States.take (k + 1))).b, Wd (qW c ((gt z i).States.take (k + 1))).c, Wd (qW c ((gt z i).States.take (k + 1))).d, ((k + 1 : Nat) : Int))) := by
    simp only [Q15.l2b]
    rw [if_pos hlt, if_pos ⟨by omega, hlt⟩, if_pos ⟨by omega, by omega⟩, Q119, Option.bind_some, wrap64 (x := (k : Int) + 1) (by omega) (by omega), hs]
    rfl
   rw [Q179 (body := fun t_ : Int × Int × Int × Int × Int => Q15.l2b z c i t_.1 t_.2.1 t_.2.2.1 t_.2.2.2.1 t_.2.2.2.2) hb]
   exact ih (k + 1) (by omega)
 have := key (gt z i).States.length 0 (by omega)
 exact this
theorem q1_run (R : RightS n x y z) {c : List Int} (hl : (c.length : Int) = n) : Q15.l1 z c [] 0 = some (.inl (z.map (qP c))) := by
 have nz := R.nz
 have h := Q284 (L := z) (β := Q2) (ρ := (List Q2) × (List Q1) × (List Bs) × (List Int) × Int) (qP c) (body := fun t_ : (List Q2) × Int => Q15.l1b z c t_.1 t_.2) (by omega) [] (fun a i i0 i1 ha => by
  simp only [Q15.l1b]
  rw [if_pos i1, if_pos ⟨i0, i1⟩, q2_run R hl i0 i1, Q12]
  simp only [W4.t, Q268, Option.bind_some]
  rw [if_pos (by simp at ha; omega), wrap64 (x := i + 1) (by omega) (by omega)]
  rfl) (fun a i hi => by simp only [Q15.l1b]; rw [if_neg hi]; rfl)
 rw [List.nil_append] at h
 exact h
theorem q0_run (R : RightS n x y z) {c : List Int} (hl : (c.length : Int) = n) : Q15.l0 y c [] 0 = some (.inl (y.map (qE c))) := by
 have ny := R.ny
 have h := Q284 (L := y) (β := Q1) (ρ := (List Q2) × (List Q1) × (List Bs) × (List Int) × Int) (qE c) (body := fun t_ : (List Q1) × Int => Q15.l0b y c t_.1 t_.2) (by omega) [] (fun a i i0 i1 ha => by
  have hE := R.ed _ (Q48 i0 i1)
  unfold EdgeIn at hE
  simp only [Q15.l0b]
  rw [if_pos i1, if_pos ⟨i0, i1⟩, if_pos ⟨by omega, by omega⟩, if_pos ⟨by omega, by omega⟩, if_pos (by simp; simp at ha; omega), wrap64 (x := i + 1) (by omega) (by omega)]
  rfl) (fun a i hi => by simp only [Q15.l0b]; rw [if_neg hi]; rfl)
 rw [List.nil_append] at h
 exact h
theorem Q311 (R : RightS n x y z) {c : List Int} (hc : Q33.f n x y z = some c) (C : Cls n (Hs z) (Es x y) c) :
 ∃ M y', Q15.f n x y z = some (z.map (qP c), y', x, c, M + 1) ∧ (0 ≤ M ∧ M < n) ∧ M ∈ c ∧ (∀ v ∈ c, 0 ≤ v ∧ v ≤ M) ∧ y'.Pairwise edgeLt ∧ (∀ e, e ∈ y' ↔ e ∈ y.map (qE c)) ∧ y'.length ≤ y.length := by
 have n0 := R.n0
 have n1 := R.n1
 have nx := R.nx
 have hl := C.len
 have hcan := Q302 C.canon
 obtain ⟨M, hM, hM1, hM2⟩ := max_run (c := c) (by omega) (by omega)
 have hv : ∀ v ∈ c, 0 ≤ v ∧ v < n := fun v hv => by
  obtain ⟨q, hq, rfl⟩ := List.getElem_of_mem hv
  have := hcan q (by omega) (by omega)
  rw [Q95 (List.getElem?_eq_getElem hq)] at this
  omega
 have hMn := hv M hM1
 obtain ⟨L, hL, hp, hso⟩ := sort2_run (xs := y.map (qE c)) (by rw [List.length_map]; have := R.ny; omega) (fun e he => by
  obtain ⟨e0, he0, rfl⟩ := List.mem_map.1 he
  have hE := R.ed e0 he0
  unfold EdgeIn at hE
  have h1 := hcan e0.From (by omega) (by omega)
  have h2 := hcan e0.To (by omega) (by omega)
  unfold Small qE
  dsimp only
  omega)
 have hLl : L.length = y.length := by rw [hp.length_eq, List.length_map]
 refine ⟨M, dd L, ?_, hMn, hM1, fun v hvc => ⟨(hv v hvc).1, hM2 v hvc⟩, dd_rise edge_tri hso, fun e => by rw [Q187]; exact hp.mem_iff, by have := dd_len L; omega⟩
 have hcl : Q89.f x = some x := by
  unfold Q89.f
  rw [if_pos (by omega)]
 unfold Q15.f
 rw [hc, Option.bind_some, if_neg (by omega), hM, Option.bind_some, hcl, Option.bind_some, q0_run R hl, Q12, hL, Option.bind_some, Q313 L (by have := R.ny; omega), Option.bind_some, q1_run R hl, Q12, wrap64 (x := M + 1) (by omega) (by omega)]
end
end Go.Bw
namespace Go.Bw
open Go Go.RowKit

theorem rise_of {α : Type} [Inhabited α] {lt : α → α → Prop} {a : List α} (h : a.Pairwise lt) : Rise lt a := fun i i0 i1 => by
 have h1 := Q68 (xs := a) (i := i - 1) (by omega) (by omega)
 have h2 := Q68 (xs := a) (i := i) (by omega) i1
 rw [List.getElem?_eq_getElem (by omega)] at h1 h2
 have := List.pairwise_iff_getElem.1 h (i - 1).toNat i.toNat (by omega) (by omega) (by omega)
 rw [Option.some.inj h1, Option.some.inj h2] at this
 exact this
section
variable {n : Int} {x : List Bs} {y : List Q1} {z : List Q2} {next : List (Q7 × Q0)} {holds : List (Bs × Q0)}
end
end Go.Bw
namespace Go.Bw
open Go Go.RowKit

theorem list_rise (u : W4) : u.list.Pairwise (· < ·) := by
 have m : ∀ {b : Int} {v : BitVec 64} {t : Int}, t ∈ wplaces b v → b ≤ t ∧ t < b + 64 := fun h => by
  obtain ⟨i, h1, _, rfl⟩ := Q242.1 h
  omega
 unfold W4.list
 refine List.pairwise_append.2 ⟨List.pairwise_append.2 ⟨List.pairwise_append.2 ⟨Q195 _ _, Q195 _ _, fun a ha b hb => ?_⟩, Q195 _ _, fun a ha b hb => ?_⟩, Q195 _ _, fun a ha b hb => ?_⟩
 ·have := m ha; have := m hb; omega
 ·have h2 := m hb
  rcases List.mem_append.1 ha with h | h <;> (have := m h; omega)
 ·have h2 := m hb
  rcases List.mem_append.1 ha with h | h
  ·rcases List.mem_append.1 h with h | h <;> (have := m h; omega)
  ·have := m h; omega
section
variable {n : Int} {x : List Bs} {y y' : List Q1} {z : List Q2} {c : List Int} {M : Int}
structure QI (n : Int) (x : List Bs) (y : List Q1) (z : List Q2) (c : List Int) (M : Int) (y' : List Q1) : Prop where
 R : RightS n x y z
 C : Cls n (Hs z) (Es x y) c
 m : 0 ≤ M ∧ M < n
 mem : M ∈ c
 le : ∀ v ∈ c, 0 ≤ v ∧ v ≤ M
 up : y'.Pairwise edgeLt
 iff : ∀ e, e ∈ y' ↔ e ∈ y.map (qE c)
 len : y'.length ≤ y.length
theorem QI.in_ (q : QI n x y z c M y') {s : Int} (h0 : 0 ≤ s) (h1 : s < n) : 0 ≤ gt c s ∧ gt c s ≤ M := by
 have := q.C.len
 exact q.le _ (Q48 h0 (by omega))
theorem QI.onto (q : QI n x y z c M y') {v : Int} (h0 : 0 ≤ v) (h1 : v ≤ M) : ∃ s, 0 ≤ s ∧ s < n ∧ gt c s = v := by
 have hl := q.C.len
 obtain ⟨k, hk, e⟩ := List.getElem_of_mem q.mem
 have hg : gt c (k : Int) = M := (Q95 (List.getElem?_eq_getElem hk)).trans e
 by_cases hv : v = M
 ·exact ⟨k, by omega, by omega, by omega⟩
 ·obtain ⟨j, j0, j1, j2⟩ := (q.C.canon k (by omega) (by omega)).2 v h0 (by omega)
  exact ⟨j, j0, by omega, j2⟩
theorem QI.same (q : QI n x y z c M y') {s t : Int} (s0 : 0 ≤ s) (s1 : s < n) (t0 : 0 ≤ t) (t1 : t < n) : gt c s = gt c t ↔ Alike (Hs z) (Es x y) s t := q.C.iff s t s0 s1 t0 t1
theorem qW_mem (q : QI n x y z c M y') {S : List Int} (hS : ∀ s ∈ S, 0 ≤ s ∧ s < n) {v : Int} : v ∈ (qW c S).list ↔ ∃ t ∈ S, gt c t = v := by
 have n1 := q.R.n1
 have hm := q.m
 have hr := Q212 (gt c) (L := S) (u := W4.z) W4.z_rep (fun t ht => by
  have := q.in_ (hS t ht).1 (hS t ht).2
  omega)
 rw [show (qW c S) = S.foldl (fun u t => putc u (gt c t)) W4.z from rfl, Q181 hr]
 constructor
 ·rintro ⟨_, _, h | h⟩
  ·cases h
  ·exact h
 ·rintro ⟨t, ht, rfl⟩
  have := q.in_ (hS t ht).1 (hS t ht).2
  exact ⟨by omega, by omega, .inr ⟨t, ht, rfl⟩⟩
theorem QI.right (q : QI n x y z c M y') : RightS (M + 1) x y' (z.map (qP c)) := by
 have R := q.R
 have n0 := R.n0
 have n1 := R.n1
 have hm := q.m
 refine ⟨by omega, by omega, R.nx, by rw [List.length_map]; exact R.nz, by have := q.len; have := R.ny; omega, fun e he => ?_, fun p hp => ?_, R.nm, fun k k0 k1 => ?_, rise_of q.up, R.rx, rise_mapp (lt := fun p q => BLt p.Name q.Name) (qP c) R.rz fun u v h => h⟩
 ·obtain ⟨e0, he0, rfl⟩ := List.mem_map.1 ((q.iff e).1 he)
  have hE := R.ed e0 he0
  unfold EdgeIn at hE
  have h1 := q.in_ hE.1 hE.2.1
  have h2 := q.in_ hE.2.2.1 hE.2.2.2.1
  unfold EdgeIn qE
  dsimp only
  omega
 ·obtain ⟨p0, hp0, rfl⟩ := List.mem_map.1 hp
  have hP := R.pr p0 hp0
  refine ⟨hP.1, fun s hs => ?_, rise_of (list_rise _)⟩
  obtain ⟨t, ht, rfl⟩ := (qW_mem q hP.2.1).1 hs
  have := q.in_ (hP.2.1 t ht).1 (hP.2.1 t ht).2
  omega
 ·obtain ⟨e, he, hk⟩ := R.us k k0 k1
  exact ⟨qE c e, (q.iff _).2 (List.mem_map_of_mem he), hk⟩
end
end Go.Bw
namespace Go.Bw
open Go Go.RowKit

def sysC (n : Int) (x : List Bs) (y : List Q1) (z : List Q2) : Ctx := ⟨n, fun a s => ∃ p ∈ z, p.Name = a ∧ s ∈ p.States, fun a s t => Hit x y ⟨s, a⟩ t⟩
theorem Q176 {n : Int} {x : List Bs} {y : List Q1} {z : List Q2} (R : RightS n x y z) : (sysC n x y z).Ok := by
 refine ⟨fun a s ⟨p, hp, _, hs⟩ => ?_, fun a s t ⟨e, he, h1, h2, _⟩ => ?_⟩
 ·exact (R.pr p hp).2.1 s hs
 ·have := R.ed e he
  unfold EdgeIn at this
  unfold Ctx.all sysC
  dsimp only at h1 h2 ⊢
  omega
theorem sys_tb {n : Int} {x : List Bs} {y : List Q1} {z : List Q2} (R : RightS n x y z) {holds : List (Bs × Q0)} {next : List (Q7 × Q0)} (hx : Nx x y next) (hh : Hx z holds) : Tb n holds next (sysC n x y z) := by
 have n0 := R.n0
 have n1 := R.n1
 refine ⟨rfl, n0, n1, Q176 R, fun a => ?_, fun a v S hv hS => ?_⟩
 ·obtain ⟨e, hw⟩ := W4.word (n := n) (by omega) (hoW_rep hh a) (fun s hs => (Q176 R).holds a s hs)
  refine ⟨(hoW hh a).a, ?_, hw⟩
  rw [hoW_run hh n next a, e]
  rfl
 ·obtain ⟨u, hu, hr⟩ := back_run hx (show 0 ≤ n by omega) (by omega) holds v a
  obtain ⟨e, hw⟩ := W4.word (n := n) (by omega) hr (fun s hs => ⟨hs.1, hs.2.1⟩)
  refine ⟨u.a, by rw [hu, e]; rfl, fun i hi => (hw i hi).trans ?_⟩
  constructor
  ·rintro ⟨_, _, t, ht, h1, h2⟩
   exact ⟨t, h1, (hv t ht).1 h2⟩
  ·rintro ⟨t, h1, h2⟩
   have h3 := (Q176 R).edge a i t h1
   have h4 := h3.2
   unfold Ctx.all sysC at h3 h4
   dsimp only at h3 h4
   refine ⟨h3.1.1, h3.1.2, t.toNat, by omega, ?_, (hv t.toNat (by omega)).2 ?_⟩
   ·rw [show ((t.toNat : Nat) : Int) = t by omega]; exact h1
   ·rw [show ((t.toNat : Nat) : Int) = t by omega]; exact h2
section
variable {n M : Int} {x : List Bs} {y y' : List Q1} {z : List Q2} {c : List Int}
theorem QI.bis (q : QI n x y z c M y') : Bis (sysC n x y z) (sysC (M + 1) x y' (z.map (qP c))) (gt c) := by
 have R := q.R
 refine ⟨fun s hs => ?_, fun u hu => ?_, fun a s hs => ?_, fun a s t h => ?_, fun a s w hs h => ?_⟩
 ·have := q.in_ hs.1 hs.2
  unfold Ctx.all sysC
  dsimp only
  omega
 ·unfold Ctx.all sysC at hu
  dsimp only at hu
  obtain ⟨s, s0, s1, e⟩ := q.onto hu.1 (by omega)
  exact ⟨s, ⟨s0, s1⟩, e⟩
 ·constructor
  ·rintro ⟨p, hp, ha, hm⟩
   exact ⟨qP c p, List.mem_map_of_mem hp, ha, (qW_mem q (R.pr p hp).2.1).2 ⟨s, hm, rfl⟩⟩
  ·rintro ⟨p', hp', ha, hm⟩
   obtain ⟨p, hp, rfl⟩ := List.mem_map.1 hp'
   obtain ⟨t, ht, e⟩ := (qW_mem q (R.pr p hp).2.1).1 hm
   have ht' := (R.pr p hp).2.1 t ht
   obtain ⟨i, hi, hpi⟩ := List.getElem_of_mem hp
   have hg : gt z (i : Int) = p := Q95 ((List.getElem?_eq_getElem hi).trans (congrArg some hpi))
   have k := (q.same ht'.1 ht'.2 hs.1 hs.2).1 e
   obtain ⟨_, p2, hp2, e2, hm2⟩ := (Alike.ks.hd _ _ k i).1 (show Hs z i t from ⟨hi, p, hp, by rw [hg], ht⟩)
   rw [hg] at e2
   exact ⟨p2, hp2, e2.trans ha, hm2⟩
 ·obtain ⟨e, he, h1, h2, h3⟩ := h
  refine ⟨qE c e, (q.iff _).2 (List.mem_map_of_mem he), ?_, ?_, h3⟩
  ·show gt c e.From = gt c s
   rw [show e.From = s from h1]
  ·show gt c e.To = gt c t
   rw [h2]
 ·obtain ⟨e', he', h1, h2, h3⟩ := h
  obtain ⟨e, he, rfl⟩ := List.mem_map.1 ((q.iff e').1 he')
  have hE := R.ed e he
  unfold EdgeIn at hE
  have h1 : gt c e.From = gt c s := h1
  have h2 : gt c e.To = w := h2
  have h3 : gt x e.Action = a ∨ a = [45] := h3
  have k := (q.same hE.1 hE.2.1 hs.1 hs.2).1 h1
  have hi : ((e.Action.toNat : Nat) : Int) = e.Action := by omega
  obtain ⟨t, ⟨_, e1, he1, f1, f2, f3⟩, k2⟩ := Alike.ks.fw _ _ k e.Action.toNat e.To (show Es x y e.Action.toNat e.From e.To from ⟨by omega, e, he, rfl, rfl, .inl (by rw [hi])⟩)
  have hE1 := R.ed e1 he1
  unfold EdgeIn at hE1
  dsimp only at f1 f2 f3
  rw [hi] at f3
  refine ⟨t, ⟨e1, he1, f1, f2, ?_⟩, ?_⟩
  ·rcases h3 with h3 | h3
   ·rcases f3 with f3 | f3
    ·exact .inl (f3.trans h3)
    ·exact .inr (by dsimp only; rw [← h3, f3])
   ·exact .inr h3
  ·rw [← h2]
   exact ((q.same hE.2.2.1 hE.2.2.2.1 (by omega) (by omega)).2 k2).symm
theorem Q276 (v : BitVec 64) {i : Int} (h0 : 0 ≤ i) (h1 : i < 64) : Q72.f (Wd v) 0 0 0 i = some (v.getLsbD i.toNat) := by
 have := has_run (u := ⟨v, 0#64, 0#64, 0#64⟩) (n := i)
 rw [show Wd (0#64) = 0 from rfl] at this
 rw [this, decide_eq_true (by omega), Bool.true_and]
 unfold W4.has W4.sel
 rw [if_pos (by omega), show i % 64 = i by omega]
theorem Q252 {v u : BitVec 64} {d d' : Int} (hn : n ≤ 24) (hc : (c.length : Int) = n) (hr : ∀ i, 0 ≤ i → i < n → 0 ≤ gt c i ∧ gt c i < 24) (h : ∀ i, 0 ≤ i → i < n → v.getLsbD i.toNat = u.getLsbD (gt c i).toNat) (P : List Q2) (Q : List Q1) (X : List Bs) (m : Int) :
 Q67.l0 (P, Q, X, c, m) (d, Wd v, 0, 0, 0) (d', Wd u, 0, 0, 0) 0 = some (.inl ()) := by
 obtain ⟨r, hr, rfl⟩ := Q35 (body := fun t_ : Int => Q67.l0b (P, Q, X, c, m) (d, Wd v, 0, 0, 0) (d', Wd u, 0, 0, 0) t_) (fun i => 0 ≤ i) (fun r => r = .inl ()) (fun i => ((c.length : Int) - i).toNat) (fun i i0 => by
  simp only [Q67.l0b]
  by_cases hi : i < (c.length : Int)
  ·right
   have hh := hr i i0 (by omega)
   rw [if_pos hi, Q276 v i0 (by omega), Option.bind_some, if_pos ⟨i0, hi⟩, Q276 u hh.1 (by omega), Option.bind_some, if_pos (by rw [h i i0 (by omega)]; simp), wrap64 (x := i + 1) (by omega) (by omega)]
   exact ⟨_, rfl, by omega, by omega⟩
  ·left; rw [if_neg hi]; exact ⟨_, rfl, rfl⟩) 0 (Int.le_refl _)
 exact hr
end
theorem new_tab {n : Int} {x : List Bs} {y : List Q1} {z : List Q2} (hs : ∀ p ∈ z, (p.States.length : Int) ≤ 9223372036854775807) (R : RightS n x y z) : ∃ holds next, Q17.f n x y z = some (some ⟨n, holds, next⟩) ∧ Tb n holds next (sysC n x y z) := by
 obtain ⟨m0, hm0, hh⟩ := Q290 z (by have := R.nz; omega) hs (fun i j h0 h1 h2 => rise_ne R.rz h0 h1 h2)
 obtain ⟨m1, hm1, hx⟩ := l1_run n x y (by have := R.ny; omega) R.ed R.n1
 obtain ⟨b, hb, hf⟩ := Q295 n x y z hs
 have hbt : b = true := hf.2 R
 subst hbt
 exact ⟨m0, m1, by unfold Q17.f; rw [hb]; simp [hm0, hm1, jn], sys_tb R hx hh⟩
theorem keeps_run (n : Int) (x : List Bs) (y : List Q1) (z : List Q2) (f : List Q9) (hs : ∀ p ∈ z, (p.States.length : Int) ≤ 9223372036854775807) (hf : ∀ n ∈ f, (n.Name.length : Int) ≤ 9223372036854775807) (hz : (0 + f.length) * 48 ≤ 140737488355328) :
 Q67.f n x y z f = some true := by
 unfold Q67.f
 rw [Q314, Option.bind_some]
 rcases Q326 n x y z hs with ⟨_, hN, hE⟩ | ⟨R, c, hc, C⟩
 ·simp [hN, jn]
 ·obtain ⟨M, y', hq, hm, hM, hle, hup, hiff, hlen⟩ := Q311 R hc C
  have q : QI n x y z c M y' := ⟨R, C, hm, hM, hle, hup, hiff, hlen⟩
  have R2 := q.right
  have n0 := R.n0
  have n1 := R.n1
  have hl := C.len
  have hs2 : ∀ p ∈ z.map (qP c), (p.States.length : Int) ≤ 9223372036854775807 := fun p hp => by
   have := Q291 R2.n1 (R2.pr p hp).2
   omega
  obtain ⟨ho, ne, hN, T⟩ := new_tab hs R
  obtain ⟨ho2, ne2, hN2, T2⟩ := new_tab hs2 R2
  have hin : ∀ i, 0 ≤ i → i < n → 0 ≤ gt c i ∧ gt c i < 24 := fun i i0 i1 => by have := q.in_ i0 i1; omega
  simp only [hN, Option.bind_some, if_true, Option.isNone_some, Q12, Bool.false_eq_true, if_false, hq, hN2, decide_eq_true hl, Bool.not_true, Option.getD_some]
  rcases eval_run f hf hz with h | ⟨to, f0, f1, ft, bd, h⟩
  ·simp only [h, Option.bind_some]
   have := Q252 (v := 0#64) (u := 0#64) (d := 1) (d' := 1) n1 hl hin (fun i _ _ => by simp) (z.map (qP c)) y' x (M + 1)
   rw [show Wd 0#64 = 0 from rfl] at this
   rw [this, Q12]
   rfl
  ·obtain ⟨v, e1, w1⟩ := h _ _ _ _ T
   obtain ⟨u, e2, w2⟩ := h _ _ _ _ T2
   simp only [e1, e2, Option.bind_some]
   rw [Q252 n1 hl hin (fun i i0 i1 => ?_) (z.map (qP c)) y' x (M + 1), Q12]
   ·rfl
   ·have hh := hin i i0 i1
    rw [Bool.eq_iff_iff, w1 i.toNat (by omega), w2 (gt c i).toNat (by omega), show ((i.toNat : Nat) : Int) = i by omega, show (((gt c i).toNat : Nat) : Int) = gt c i by omega]
    exact den_bis (Q176 R) (Q176 R2) q.bis bd (fun p hp => by cases hp) (fun p hp => by cases hp) (fun p hp => by cases hp) (fun p hp => by cases hp) i ⟨i0, i1⟩
end Go.Bw
namespace Go.Bw
open Go Go.RowKit Go.Proofs Go.ChangeShapes Go.WideShapes
abbrev laid64 : List (String × DataW Unit) := [("math/bits.deBruijn64tab", Go.Proofs.YtbkooifhcekpmaaGreatDoor.Rows.laid_math_bits_deBruijn64tab)]
theorem Q320 {H : Type} : (Go.Proofs.YtbkooifhcekpmaaGreatDoor.Rows.laid_math_bits_deBruijn64tab : DataW H) = .agg (Tryz.gtab0.map fun a => .lit (.int .u8 a)) := rfl
theorem Q318 : Tryz.prog.globalNamed "math/bits.deBruijn64tab" = some 0 := by kernel_rfl
theorem Q323 : (Tryz.prog.globals[0]?).map (·.type) = some 138 := by kernel_rfl
theorem Q321 (os : Os) (args : Array Value) : laidMetH Tryz.prog laid64 ((World.doorLaid Tryz.prog 31 os).forCall (fun _ _ => 0) ⟨#[], args, []⟩).memory :=
 laidMetH_of_parts3 (fuel := 8) (laidMet_of_run' 8 (by kernel_rfl) (by kernel_rfl)) (by kernel_rfl) (by kernel_rfl)
theorem laid64_rd {W : World} (h : laidMetH Tryz.prog laid64 W) : RdS (Fl.int .u8).rep (wh W) (some ⟨0, 0, none⟩) Tryz.gtab0 := by
 rw [MakeChecks.laidMetH_plain _ _ _ (by kernel_rfl)] at h
 obtain ⟨ps, ⟨g0, t0, cs0, f0, p0, q0, hg0, ht0, hv0, hd0, _, _⟩, _, _⟩ := h
 obtain rfl := Option.some.inj (Q318.symm.trans hg0)
 obtain rfl := Option.some.inj (Q323.symm.trans ht0)
 obtain ⟨xs, m1, rfl, hx1, hlen, hn3, hel⟩ := DataW.trod_array Tryz.underlying138 hd0
 have hx : xs.map (·.1) = Tryz.gtab0.map fun a => (DataW.lit (.int .u8 a) : DataW Unit) := by
  have h1 := (Prod.mk.inj hx1).1
  have h2 := (Q320 (H := Unit)).symm.trans h1
  exact (DataW.agg.inj h2).symm
 refine Q333 fun i hi => ?_
 have hgl : Tryz.gtab0.length = 64 := rfl
 have hi' : i < 64 := by omega
 have he := hel i hi'
 have hxi : i < xs.length := by omega
 rw [List.getElem?_eq_getElem hxi] at he
 obtain ⟨k, e1, e2, _⟩ := DataW.trod_int Tryz.underlying5 he
 obtain ⟨v, hv⟩ : ∃ v, Tryz.gtab0[i]? = some v := ⟨_, List.getElem?_eq_getElem hi⟩
 have h2 := congrArg (fun l => l[i]?) hx
 simp only [List.getElem?_map, List.getElem?_eq_getElem hxi, hv, Option.map_some, Option.some.injEq] at h2
 rw [e2] at h2
 have hk : k = v := by simpa using h2
 have c5 : Tryz.prog.cellsOf 5 = 1 := by kernel_rfl
 rw [c5, Nat.mul_one] at e1
 rw [World.var?_cell hg0 hv0 i]
 have hc : (cs0.toList.drop i)[0]? = some (.int .u8 k) := by
  cases hd : cs0.toList.drop i with
  | nil => rw [hd] at e1; simp at e1
  | cons a r => rw [hd] at e1; simp at e1; simp [e1]
 rw [List.getElem?_drop, Nat.add_zero] at hc
 rw [List.getD_eq_getElem?_getD, hv, Option.getD_some, ← hk]
 simpa using hc
end Go.Bw
namespace Go.Bw
open Go Go.RowKit Go.ChangeShapes Go.WideShapes Go.Deep
section
variable {P : Program} {α β γ δ ε : Type}
theorem Q334 {H : Type} {enc : TypeId × Value → H} {w : World} {base : Nat} {spare : TypeId → Bool} {held : Bool} {t : TypeId} {f0 f1 f2 f3 f4 : Field} {fuel : Nat} {cs : List Value} {x : DataW H × List MemPlace} (ht : P.underlying t = some (.struct #[f0, f1, f2, f3, f4])) (h : DataW.trod enc P w base spare held fuel t cs = some x) :
 ∃ y0 y1 y2 y3 y4 n, x = (.agg [y0.1, y1.1, y2.1, y3.1, y4.1], y0.2 ++ (y1.2 ++ (y2.2 ++ (y3.2 ++ y4.2)))) ∧ cs.length = P.cellsOf t ∧ DataW.trod enc P w base spare held n f0.type ((cs.drop f0.offset).take (P.cellsOf f0.type)) = some y0 ∧
  DataW.trod enc P w base spare held n f1.type ((cs.drop f1.offset).take (P.cellsOf f1.type)) = some y1 ∧ DataW.trod enc P w base spare held n f2.type ((cs.drop f2.offset).take (P.cellsOf f2.type)) = some y2 ∧
  DataW.trod enc P w base spare held n f3.type ((cs.drop f3.offset).take (P.cellsOf f3.type)) = some y3 ∧ DataW.trod enc P w base spare held n f4.type ((cs.drop f4.offset).take (P.cellsOf f4.type)) = some y4 := by
 obtain ⟨xs, n, _, rfl, hl, hlen, hf⟩ := DataW.trod_struct ht h
 match xs, hlen with
 | [y0, y1, y2, y3, y4], _ => exact ⟨y0, y1, y2, y3, y4, n, by simp, hl, by simpa using hf 0 f0 rfl, by simpa using hf 1 f1 rfl, by simpa using hf 2 f2 rfl, by simpa using hf 3 f3 rfl, by simpa using hf 4 f4 rfl⟩
theorem OpensZ.st5 {T : Rep α} {U : Rep β} {V : Rep γ} {X : Rep δ} {Y : Rep ε} {S Z : α → Prop} {S' Z' : β → Prop} {S'' Z'' : γ → Prop} {S3 Z3 : δ → Prop} {S4 Z4 : ε → Prop} {t : Nat} {f0 f1 f2 f3 f4 : Field} (ht : P.underlying t = some (.struct #[f0, f1, f2, f3, f4])) (o0 : OpensZ P T f0.type S Z) (o1 : OpensZ P U f1.type S' Z') (o2 : OpensZ P V f2.type S'' Z'') (o3 : OpensZ P X f3.type S3 Z3) (o4 : OpensZ P Y f4.type S4 Z4)
 (h0 : f0.offset = 0) (h1 : f1.offset = T.sz) (h2 : f2.offset = T.sz + U.sz) (h3 : f3.offset = T.sz + (U.sz + V.sz)) (h4 : f4.offset = T.sz + (U.sz + (V.sz + X.sz))) (hc : P.cellsOf t = T.sz + (U.sz + (V.sz + (X.sz + Y.sz)))) :
 OpensZ P (T.pair (U.pair (V.pair (X.pair Y)))) t (fun p => S p.1 ∧ S' p.2.1 ∧ S'' p.2.2.1 ∧ S3 p.2.2.2.1 ∧ S4 p.2.2.2.2) (fun p => Z p.1 ∧ Z' p.2.1 ∧ Z'' p.2.2.1 ∧ Z3 p.2.2.2.1 ∧ Z4 p.2.2.2.2) := ⟨hc, fun fuel cs x h => by
 obtain ⟨y0, y1, y2, y3, y4, n, hx, hl, g0, g1, g2, g3, g4⟩ := Q334 ht h
 obtain ⟨a, ka, sa, za⟩ := o0.2 _ _ _ g0
 obtain ⟨b, kb, sb, zb⟩ := o1.2 _ _ _ g1
 obtain ⟨c, kc, sc, zc⟩ := o2.2 _ _ _ g2
 obtain ⟨d, kd, sd, zd⟩ := o3.2 _ _ _ g3
 obtain ⟨e, ke, se, ze⟩ := o4.2 _ _ _ g4
 rw [h0, o0.1, List.drop_zero] at ka
 rw [h1, o1.1] at kb
 rw [h2, o2.1, ← List.drop_drop] at kc
 rw [h3, o3.1, ← List.drop_drop, ← List.drop_drop] at kd
 rw [h4, o4.1, ← List.drop_drop, ← List.drop_drop, ← List.drop_drop] at ke
 have e1 : cs = cs.take T.sz ++ cs.drop T.sz := (List.take_append_drop _ _).symm
 have e2 : cs.drop T.sz = (cs.drop T.sz).take U.sz ++ (cs.drop T.sz).drop U.sz := (List.take_append_drop _ _).symm
 have e3 : (cs.drop T.sz).drop U.sz = ((cs.drop T.sz).drop U.sz).take V.sz ++ ((cs.drop T.sz).drop U.sz).drop V.sz := (List.take_append_drop _ _).symm
 have e4 := cut2 (cs := ((cs.drop T.sz).drop U.sz).drop V.sz) (a := X.sz) (b := Y.sz) (by simp; omega)
 exact ⟨(a, b, c, d, e), ⟨_, _, e1, ka, _, _, e2, kb, _, _, e3, kc, _, _, e4, kd, ke⟩, ⟨sa, sb, sc, sd, se⟩, fun hw => ⟨za fun w hq => (hw w (by rw [(Prod.mk.inj hx).1]; simp [DataW.weights, DataW.weightsEach, ht, hq])), zb fun w hq => (hw w (by rw [(Prod.mk.inj hx).1]; simp [DataW.weights, DataW.weightsEach, ht, hq])), zc fun w hq => (hw w (by rw [(Prod.mk.inj hx).1]; simp [DataW.weights, DataW.weightsEach, ht, hq])), zd fun w hq => (hw w (by rw [(Prod.mk.inj hx).1]; simp [DataW.weights, DataW.weightsEach, ht, hq])), ze fun w hq => (hw w (by rw [(Prod.mk.inj hx).1]; simp [DataW.weights, DataW.weightsEach, ht, hq]))⟩⟩⟩
end
end Go.Bw
namespace Go.Bw
open Go Go.RowKit Go.Proofs
theorem Q343 {n : Int} {x : List Bs} {y : List Q1} {z : List Q2} {f : List Q9} (h : (Lit.int .i64 n).wf = true ∧ (x.length ≤ maxLen ∧ ∀ s ∈ x, s.length ≤ maxLen) ∧ (y.length ≤ maxLen ∧ ∀ e ∈ y, ((Lit.int .i64 e.From).wf = true ∧ (Lit.int .i64 e.Action).wf = true ∧ (Lit.int .i64 e.To).wf = true)) ∧
 (z.length ≤ maxLen ∧ ∀ p ∈ z, (p.Name.length ≤ maxLen ∧ (p.States.length ≤ maxLen ∧ ∀ s ∈ p.States, (Lit.int .i64 s).wf = true))))
 (w : True ∧ (x.length * Tryz.prog.bytesOf 9 ≤ reachBytes ∧ ∀ s ∈ x, True) ∧ (y.length * Tryz.prog.bytesOf 35 ≤ reachBytes ∧ ∀ e ∈ y, (True ∧ True ∧ True)) ∧ (z.length * Tryz.prog.bytesOf 37 ≤ reachBytes ∧ ∀ p ∈ z, (True ∧ (p.States.length * Tryz.prog.bytesOf 3 ≤ reachBytes ∧ ∀ s ∈ p.States, True))))
 (h2 : f.length ≤ maxLen ∧ ∀ e ∈ f, ((Lit.int .i64 e.Kind).wf = true ∧ (Lit.int .i64 e.A).wf = true ∧ (Lit.int .i64 e.B).wf = true ∧ e.Name.length ≤ maxLen ∧ (Lit.int .i64 e.At).wf = true))
 (w2 : f.length * Tryz.prog.bytesOf 171 ≤ reachBytes ∧ ∀ e ∈ f, (True ∧ True ∧ True ∧ True ∧ True)) :
 Q67.f n x y z f = some true := keeps_run n x y z f (fun p hp => by
 have h1 := (h.2.2.2.2 p hp).2.1
 have h2 : maxLen ≤ 9223372036854775807 := by decide
 omega) (fun p hp => by
 have h1 := (h2.2 p hp).2.2.2.1
 have h2 : maxLen ≤ 9223372036854775807 := by decide
 omega) (by
 have b : Tryz.prog.bytesOf 171 = 48 := by kernel_rfl
 have hr : reachBytes = 140737488351232 := rfl
 have := w2.1
 rw [b, hr] at this
 omega)
end Go.Bw
