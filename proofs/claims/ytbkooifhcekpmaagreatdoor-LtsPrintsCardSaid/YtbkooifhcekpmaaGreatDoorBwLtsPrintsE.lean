/- LtsPrints, part 5: walks and plain laws. Conditions: none. -/
import Derived.Laws.CopyRow
import Derived.Test.YtbkooifhcekpmaaGreatDoorProg
import Derived.Deep.QuietTactic
import Derived.Test.YtbkooifhcekpmaaGreatDoorRows
import Derived.LaidMore
import Derived.ProofKit
import Derived.OpenShut
import Derived.Stop.Joined
import Derived.Test.YtbkooifhcekpmaaGreatDoorBwLtsPrintsD
set_option linter.unusedVariables false
set_option linter.unusedSimpArgs false
set_option linter.unusedSectionVars false
set_option maxRecDepth 100000
set_option maxHeartbeats 2000000
namespace Go.Bw
open Go Go.RowKit

def W8 (v : BitVec 8) : Int := (v.toNat : Int)
theorem Q137 (v : BitVec 8) : BitVec.ofInt 8 (W8 v) = v := by
 unfold W8
 apply BitVec.eq_of_toNat_eq
 simp
theorem W8.inj {u v : BitVec 8} (h : W8 u = W8 v) : u = v := by rw [← Q137 u, h, Q137]
theorem wrap8 {x : Int} (h0 : 0 ≤ x) (h1 : x < 256) : IntKind.u8.wrap x = x := by
 simp [IntKind.wrap, IntKind.bits, IntKind.signed]
 omega
theorem wrap_w8 (v : BitVec 8) : IntKind.u8.wrap (v.toNat : Int) = W8 v := by
 have := v.isLt
 exact wrap8 (by omega) (by omega)
theorem bor_w8 (u v : BitVec 8) : bor .u8 (W8 u) (W8 v) = W8 (u ||| v) := by
 show IntKind.u8.wrap ((BitVec.ofInt 8 (W8 u) ||| BitVec.ofInt 8 (W8 v)).toNat : Int) = _
 rw [Q137, Q137, wrap_w8]
theorem shl8 {k : Int} (h0 : 0 ≤ k) (h1 : k < 8) : Bw.shl .u8 1 k = W8 (BitVec.twoPow 8 k.toNat) := by
 obtain ⟨m, rfl⟩ := Int.eq_ofNat_of_zero_le h0
 have hm : m < 8 := by omega
 match m, hm with
 | 0, _ => rfl
 | 1, _ => rfl
 | 2, _ => rfl
 | 3, _ => rfl
 | 4, _ => rfl
 | 5, _ => rfl
 | 6, _ => rfl
 | 7, _ => rfl
def full8 (m : Nat) : BitVec 8 := BitVec.allOnes 8 >>> (8 - m)
theorem full_run {m : Nat} (hm : m ≤ 8) : IntKind.u8.wrap (Bw.shl .u8 1 (m : Int) - 1) = W8 (full8 m) := by
 match m, hm with
 | 0, _ => rfl
 | 1, _ => rfl
 | 2, _ => rfl
 | 3, _ => rfl
 | 4, _ => rfl
 | 5, _ => rfl
 | 6, _ => rfl
 | 7, _ => rfl
 | 8, _ => rfl
theorem Q224 {m k : Nat} (hm : m ≤ 8) (hk : k < 8) : (full8 m).getLsbD k = decide (k < m) := by
 unfold full8
 rw [BitVec.getLsbD_ushiftRight, BitVec.getLsbD_allOnes]
 rw [decide_eq_decide]
 omega
def UsedS (m : Nat) (y : List Q0) : Prop := ∀ k : Int, 0 ≤ k → k < (m : Int) → ∃ e ∈ y, e.Action = k
def Mask (v : BitVec 8) (y : List Q0) : Prop := ∀ k : Nat, k < 8 → (v.getLsbD k = true ↔ ∃ e ∈ y, e.Action = (k : Int))
theorem Q225 {v : BitVec 8} {y : List Q0} {n : Int} {m : Nat} (hv : Mask v y) (hm : m ≤ 8) (he : ∀ e ∈ y, EdgeIn n m e) : v = full8 m ↔ UsedS m y := by
 constructor
 ·rintro rfl k k0 k1
  have := (hv k.toNat (by omega)).1 (by rw [Q224 hm (by omega)]; simp; omega)
  obtain ⟨e, h1, h2⟩ := this
  exact ⟨e, h1, by omega⟩
 ·intro h
  apply BitVec.eq_of_getLsbD_eq
  intro k hk
  rw [Q224 hm hk, Bool.eq_iff_iff, hv k hk, decide_eq_true_eq]
  constructor
  ·rintro ⟨e, h1, h2⟩
   have := (he e h1).2.2.2.2.2
   omega
  ·intro hkm
   exact h k (by omega) (by omega)
theorem edges_iff (n : Int) (x : List Bs) (y : List Q0) (z : List Q1) (hy : (y.length : Int) ≤ 9223372036854775807) (hx : x.length ≤ 8) :
 (∃ v, Q9.l0 n x y z 0 0 = some (.inl (W8 v)) ∧ Mask v y ∧ ∀ e ∈ y, EdgeIn n x.length e) ∨ (Q9.l0 n x y z 0 0 = some (.inr false) ∧ ¬ ∀ e ∈ y, EdgeIn n x.length e) := by
 obtain ⟨r, hr, hq⟩ := Q94 (body := fun t_ : Int × Int => Q9.l0b n x y z t_.1 t_.2) (fun s => 0 ≤ s.2 ∧ s.2 ≤ (y.length : Int) ∧ (∀ e ∈ y.take s.2.toNat, EdgeIn n x.length e) ∧ ∃ v, s.1 = W8 v ∧ Mask v (y.take s.2.toNat))
  (fun r => (∃ v, r = .inl (W8 v) ∧ Mask v y ∧ ∀ e ∈ y, EdgeIn n x.length e) ∨ (r = .inr false ∧ ¬ ∀ e ∈ y, EdgeIn n x.length e)) (fun s => ((y.length : Int) - s.2).toNat) (fun ⟨u, i⟩ ⟨h0, h1, h2, v, h3, h4⟩ => by
   dsimp only at h0 h1 h2 h3 h4 ⊢
   subst h3
   unfold Q9.l0b
   by_cases hi : i < (y.length : Int)
   ·have hm := Q47 h0 hi
    rw [if_pos hi, if_pos ⟨h0, hi⟩, in_run, in_run]
    simp only [Option.bind_some]
    by_cases e1 : 0 ≤ (gt y i).From ∧ (gt y i).From < n
    ·by_cases e2 : 0 ≤ (gt y i).To ∧ (gt y i).To < n
     ·by_cases e3 : (gt y i).Action < 0
      ·left; exact ⟨_, by simp [e1, e2, e3, jn, upL], .inr ⟨rfl, fun h => by have := (h _ hm).2.2.2.2.1; omega⟩⟩
      ·by_cases e4 : (x.length : Int) ≤ (gt y i).Action
       ·left; exact ⟨_, by simp [e1, e2, e3, e4, jn, upL], .inr ⟨rfl, fun h => by have := (h _ hm).2.2.2.2.2; omega⟩⟩
       ·right
        have e5 : 0 ≤ (gt y i).Action := by omega
        have hw : IntKind.i64.wrap (i + 1) = i + 1 := wrap64 (by omega) (by omega)
        have ht : y.take (i + 1).toNat = y.take i.toNat ++ [gt y i] := by
         rw [show (i + 1).toNat = i.toNat + 1 from by omega, List.take_add_one, Q102 h0 hi]; rfl
        refine ⟨(W8 (v ||| BitVec.twoPow 8 (gt y i).Action.toNat), i + 1), by simp [e1, e2, e3, e4, e5, jn, nx, hw, shl8 e5 (by omega), bor_w8], ⟨by dsimp only; omega, by dsimp only; omega, fun e he => ?_, _, rfl, fun k hk => ?_⟩, by dsimp only; omega⟩
        ·dsimp only at he
         rw [ht] at he
         rcases List.mem_append.1 he with he | he
         ·exact h2 e he
         ·simp at he; subst he
          exact ⟨e1.1, e1.2, e2.1, e2.2, e5, by omega⟩
        ·dsimp only
         rw [ht, BitVec.getLsbD_or, Bool.or_eq_true, h4 k hk, BitVec.getLsbD_twoPow]
         constructor
         ·rintro (⟨e, a, b⟩ | h)
          ·exact ⟨e, by simp [a], b⟩
          ·simp at h
           exact ⟨gt y i, by simp, by omega⟩
         ·rintro ⟨e, a, b⟩
          rcases List.mem_append.1 a with a | a
          ·exact .inl ⟨e, a, b⟩
          ·simp at a
           subst a
           right
           simp
           omega
     ·left; exact ⟨_, by simp [e1, e2, jn, upL], .inr ⟨rfl, fun h => e2 ⟨(h _ hm).2.2.1, (h _ hm).2.2.2.1⟩⟩⟩
    ·left; exact ⟨_, by simp [e1, jn, upL], .inr ⟨rfl, fun h => e1 ⟨(h _ hm).1, (h _ hm).2.1⟩⟩⟩
   ·left
    rw [if_neg hi]
    rw [List.take_of_length_le (by omega)] at h2 h4
    exact ⟨_, rfl, .inl ⟨v, rfl, h4, h2⟩⟩) (0, 0) ⟨Int.le_refl _, by dsimp only; omega, by simp, 0#8, rfl, fun k hk => by simp⟩
 rcases hq with ⟨v, rfl, h⟩ | ⟨rfl, h⟩
 ·exact .inl ⟨v, hr, h⟩
 ·exact .inr ⟨hr, h⟩
def PropS (n : Int) (p : Q1) : Prop := NameS p.Name ∧ StatesS n p.States
theorem props_iff (n : Int) (x : List Bs) (y : List Q0) (z : List Q1) (hz : (z.length : Int) ≤ 9223372036854775807) (hs : ∀ p ∈ z, (p.States.length : Int) ≤ 9223372036854775807) :
 (Q9.l1 n x y z 0 = some (.inl ()) ∧ ∀ p ∈ z, PropS n p) ∨ (Q9.l1 n x y z 0 = some (.inr false) ∧ ¬ ∀ p ∈ z, PropS n p) := by
 have key := Q103 (body := fun t_ : Int => Q9.l1b n x y z t_) (N := z.length) (p := fun i => PropS n (gt z i)) (bad := false) hz 0 (by decide) (fun i hi h1 => by
  simp only [Q9.l1b]
  obtain ⟨b1, hb1, c1⟩ := Q212 (gt z i).Name
  obtain ⟨b2, hb2, c2⟩ := Q249 (gt z i).States (hs _ (Q47 hi h1))
  obtain ⟨b3, hb3, c3⟩ := inS_iff (gt z i).States n x y z (hs _ (Q47 hi h1))
  rw [if_pos h1, if_pos ⟨hi, h1⟩, hb1, hb2, hb3]
  unfold PropS StatesS
  rw [← c1, ← c2]
  have c3' : (∀ s ∈ (gt z i).States, 0 ≤ s ∧ s < n) ↔ b3 = false := by
   cases b3 with
   | true => simp only [Bool.true_eq_false, iff_false]; exact c3.1 rfl
   | false => simp only [iff_true]; exact Classical.not_not.1 fun h => by have := c3.2 h; cases this
  rw [c3']
  cases b1 <;> cases b2 <;> cases b3 <;> simp [jn, nx, upL]) (fun i h => by simp only [Q9.l1b]; rw [if_neg h]; rfl)
 have hiff : (∀ i : Int, 0 ≤ i → i < (z.length : Int) → PropS n (gt z i)) ↔ ∀ p ∈ z, PropS n p := by
  constructor
  ·intro h p hp
   obtain ⟨k, hk, rfl⟩ := List.getElem_of_mem hp
   have := h k (by omega) (by omega)
   rwa [Q120 (List.getElem?_eq_getElem hk)] at this
  ·exact fun h i i0 i1 => h _ (Q47 i0 i1)
 rcases key with ⟨h, q⟩ | ⟨h, i, i0, i1, i2⟩
 ·exact .inl ⟨h, hiff.1 q⟩
 ·exact .inr ⟨h, fun hr => i2 (hiff.2 hr i i0 i1)⟩
structure RightS (n : Int) (x : List Bs) (y : List Q0) (z : List Q1) : Prop where
 n0 : 1 ≤ n
 n1 : n ≤ 24
 nx : x.length ≤ 8
 nz : z.length ≤ 8
 ny : y.length ≤ 200
 ed : ∀ e ∈ y, EdgeIn n x.length e
 pr : ∀ p ∈ z, PropS n p
 nm : ∀ s ∈ x, NameS s
 us : UsedS x.length y
 re : Rise edgeLt y
 rx : Rise BLt x
 rz : Rise (fun p q => BLt p.Name q.Name) z
theorem Q151 (n : Int) (x : List Bs) (y : List Q0) (z : List Q1) (hs : ∀ p ∈ z, (p.States.length : Int) ≤ 9223372036854775807) : ∃ b, Q9.f n x y z = some b ∧ (b = true ↔ RightS n x y z) := by
 have no : ∀ {P : Prop}, ¬ P → (false = true ↔ P) := fun h => ⟨fun e => (by cases e), fun p => absurd p h⟩
 unfold Q9.f
 by_cases h1 : n < 1
 ·exact ⟨false, by simp [h1, jn], no fun h => by have := h.n0; omega⟩
 by_cases h2 : 24 < n
 ·exact ⟨false, by simp [h1, h2, jn], no fun h => by have := h.n1; omega⟩
 by_cases h3 : 8 < (x.length : Int)
 ·exact ⟨false, by simp [h1, h2, h3, jn], no fun h => by have := h.nx; omega⟩
 by_cases h4 : 8 < (z.length : Int)
 ·exact ⟨false, by simp [h1, h2, h3, h4, jn], no fun h => by have := h.nz; omega⟩
 by_cases h5 : 200 < (y.length : Int)
 ·exact ⟨false, by simp [h1, h2, h3, h4, h5, jn], no fun h => by have := h.ny; omega⟩
 simp only [if_neg h1, Q49, decide_eq_false h2, decide_eq_false h3, decide_eq_false h4, decide_eq_false h5, Bool.false_eq_true, if_false]
 rcases edges_iff n x y z (by omega) (by omega) with ⟨v, hr, hm, he⟩ | ⟨hr, he⟩
 ·rw [hr, Q49]
  rcases props_iff n x y z (by omega) hs with ⟨hp, hpp⟩ | ⟨hp, hpp⟩
  ·rw [hp, Q49]
   obtain ⟨b1, hb1, c1⟩ := names_iff x (by omega)
   obtain ⟨b2, hb2, c2⟩ := Q252 y (by omega)
   obtain ⟨b3, hb3, c3⟩ := Q251 x (by omega)
   obtain ⟨b4, hb4, c4⟩ := Q238 z (by omega)
   have h0 : (0 : Int) ≤ (x.length : Int) := by omega
   have hu : (W8 v = W8 (full8 x.length)) ↔ UsedS x.length y := ⟨fun h => (Q225 hm (by omega) he).1 (W8.inj h), fun h => by rw [(Q225 hm (by omega) he).2 h]⟩
   simp only [hb1, hb2, hb3, hb4, Option.bind_some, if_pos h0, full_run (show x.length ≤ 8 by omega)]
   by_cases k1 : b1 = true
   ·subst k1
    exact ⟨false, by simp [jn], no fun h => c1.1 rfl h.nm⟩
   ·have k1' : b1 = false := by simpa using k1
    subst k1'
    have hnm : ∀ s ∈ x, NameS s := Classical.not_not.1 fun h => by have := c1.2 h; cases this
    by_cases k2 : W8 v = W8 (full8 x.length)
    ·cases b2 with
     | false => exact ⟨false, by simp [jn, k2], no fun h => by have := c2.2 h.re; cases this⟩
     | true =>
      cases b3 with
      | false => exact ⟨false, by simp [jn, k2], no fun h => by have := c3.2 h.rx; cases this⟩
      | true =>
       cases b4 with
       | false => exact ⟨false, by simp [jn, k2], no fun h => by have := c4.2 h.rz; cases this⟩
       | true => exact ⟨true, by simp [jn, k2], by simp only [true_iff]; exact ⟨by omega, by omega, by omega, by omega, by omega, he, hpp, hnm, hu.1 k2, c2.1 rfl, c3.1 rfl, c4.1 rfl⟩⟩
    ·exact ⟨false, by simp [jn, k2], no fun h => k2 (hu.2 h.us)⟩
  ·rw [hp]
   exact ⟨false, rfl, no fun h => hpp h.pr⟩
 ·rw [hr]
  exact ⟨false, rfl, no fun h => he h.ed⟩
end Go.Bw
namespace Go.Bw
open Go Go.RowKit

instance (a b : Q0) : Decidable (edgeLt a b) := by unfold edgeLt; infer_instance
theorem ahead_run (a b : Q0) : Q104.f a.From a.Action a.To b.From b.Action b.To = some (decide (edgeLt a b)) := by
 unfold Q104.f edgeLt
 by_cases h1 : a.From = b.From
 ·by_cases h2 : a.Action = b.Action
  ·simp [h1, h2]
  ·simp [h1, h2]
 ·simp [h1]
def Ticks (m : Nat) (u : List Bool) (y : List Q0) : Prop := u.length = m ∧ ∀ k : Int, 0 ≤ k → k < (m : Int) → (gt u k = true ↔ ∃ e ∈ y, e.Action = k)
theorem Q239 (n : Int) (x : List Bs) (y : List Q0) (hy : (y.length : Int) ≤ 9223372036854775807) :
 (∃ u, Q41.l0 n x y (List.replicate (x.length : Int).toNat false) 0 = some (.inl u) ∧ Ticks x.length u y ∧ (∀ e ∈ y, EdgeIn n x.length e) ∧ Rise edgeLt y) ∨ (Q41.l0 n x y (List.replicate (x.length : Int).toNat false) 0 = some (.inr false) ∧ ¬ ((∀ e ∈ y, EdgeIn n x.length e) ∧ Rise edgeLt y)) := by
 have hrep : ((List.replicate (x.length : Int).toNat (false : Bool)).length : Int) = x.length := by simp
 obtain ⟨r, hr, hq⟩ := Q94 (body := fun t_ : List Bool × Int => Q41.l0b n x y t_.1 t_.2) (fun s => 0 ≤ s.2 ∧ s.2 ≤ (y.length : Int) ∧ (∀ e ∈ y.take s.2.toNat, EdgeIn n x.length e) ∧ (∀ i : Int, 1 ≤ i → i < s.2 → edgeLt (gt y (i - 1)) (gt y i)) ∧ Ticks x.length s.1 (y.take s.2.toNat))
  (fun r => (∃ u, r = .inl u ∧ Ticks x.length u y ∧ (∀ e ∈ y, EdgeIn n x.length e) ∧ Rise edgeLt y) ∨ (r = .inr false ∧ ¬ ((∀ e ∈ y, EdgeIn n x.length e) ∧ Rise edgeLt y))) (fun s => ((y.length : Int) - s.2).toNat) (fun ⟨u, i⟩ ⟨h0, h1, h2, h3, h4, h5⟩ => by
   dsimp only at h0 h1 h2 h3 h4 h5 ⊢
   unfold Q41.l0b
   by_cases hi : i < (y.length : Int)
   ·have hm := Q47 h0 hi
    rw [if_pos hi, if_pos ⟨h0, hi⟩]
    have bad : ¬ EdgeIn n x.length (gt y i) → ¬ ((∀ e ∈ y, EdgeIn n x.length e) ∧ Rise edgeLt y) := fun hb h => hb (h.1 _ hm)
    by_cases e1 : (gt y i).From < 0
    ·left; exact ⟨.inr false, by simp [e1, jn, upL], .inr ⟨rfl, bad fun h => by have := h.1; omega⟩⟩
    by_cases e2 : n ≤ (gt y i).From
    ·left; exact ⟨.inr false, by simp [e1, e2, jn, upL], .inr ⟨rfl, bad fun h => by have := h.2.1; omega⟩⟩
    by_cases e3 : (gt y i).To < 0
    ·left; exact ⟨.inr false, by simp [e1, e2, e3, jn, upL], .inr ⟨rfl, bad fun h => by have := h.2.2.1; omega⟩⟩
    by_cases e4 : n ≤ (gt y i).To
    ·left; exact ⟨.inr false, by simp [e1, e2, e3, e4, jn, upL], .inr ⟨rfl, bad fun h => by have := h.2.2.2.1; omega⟩⟩
    by_cases e5 : (gt y i).Action < 0
    ·left; exact ⟨.inr false, by simp [e1, e2, e3, e4, e5, jn, upL], .inr ⟨rfl, bad fun h => by have := h.2.2.2.2.1; omega⟩⟩
    by_cases e6 : (x.length : Int) ≤ (gt y i).Action
    ·left; exact ⟨.inr false, by simp [e1, e2, e3, e4, e5, e6, jn, upL], .inr ⟨rfl, bad fun h => by have := h.2.2.2.2.2; omega⟩⟩
    have e7 : (0 : Int) ≤ (gt y i).Action ∧ (gt y i).Action < ((List.replicate (x.length : Int).toNat (false : Bool)).length : Int) := by rw [hrep]; omega
    have hE : EdgeIn n x.length (gt y i) := ⟨by omega, by omega, by omega, by omega, by omega, by omega⟩
    have ht : y.take (i + 1).toNat = y.take i.toNat ++ [gt y i] := by
     rw [show (i + 1).toNat = i.toNat + 1 from by omega, List.take_add_one, Q102 h0 hi]; rfl
    simp only [if_neg e1, Q49, decide_eq_false e2, decide_eq_false e3, decide_eq_false e4, decide_eq_false e5, decide_eq_false e6, Bool.false_eq_true, if_false, if_pos e7]
    have go : (i = 0 ∨ edgeLt (gt y (i - 1)) (gt y i)) → (0 ≤ i + 1 ∧ i + 1 ≤ (y.length : Int) ∧ (∀ e ∈ y.take (i + 1).toNat, EdgeIn n x.length e) ∧ (∀ j : Int, 1 ≤ j → j < i + 1 → edgeLt (gt y (j - 1)) (gt y j)) ∧ Ticks x.length (st u (gt y i).Action true) (y.take (i + 1).toNat)) := fun ho => by
     refine ⟨by omega, by omega, fun e he => ?_, fun j j0 j1 => ?_, by rw [st_len]; exact h4, fun k k0 k1 => ?_⟩
     ·rw [ht] at he
      rcases List.mem_append.1 he with he | he
      ·exact h2 e he
      ·simp at he; subst he; exact hE
     ·by_cases hj : j = i
      ·subst hj; rcases ho with ho | ho
       ·omega
       ·exact ho
      ·exact h3 j j0 (by omega)
     ·rw [gt_st e7.1 (by rw [h4]; omega) k0, ht]
      by_cases hk : k = (gt y i).Action
      ·rw [if_pos hk]; simp only [true_iff]; exact ⟨gt y i, by simp, hk.symm⟩
      ·rw [if_neg hk, h5 k k0 k1]
       constructor
       ·rintro ⟨e, a, b⟩; exact ⟨e, by simp [a], b⟩
       ·rintro ⟨e, a, b⟩
        rcases List.mem_append.1 a with a | a
        ·exact ⟨e, a, b⟩
        ·simp at a; subst a; exact absurd b.symm hk
    have hw : IntKind.i64.wrap (i + 1) = i + 1 := wrap64 (by omega) (by omega)
    by_cases hi0 : 0 < i
    ·have hc : (0 : Int) ≤ i - 1 ∧ i - 1 < (y.length : Int) := by omega
     rw [if_pos hi0, wrap64 (x := i - 1) (by omega) (by omega), if_pos hc, ahead_run]
     simp only [Option.bind_some, Q49]
     by_cases hl : edgeLt (gt y (i - 1)) (gt y i)
     ·right
      refine ⟨(st u (gt y i).Action true, i + 1), by simp [hl, nx, hw], go (.inr hl), by dsimp only; omega⟩
     ·left
      exact ⟨.inr false, by simp [hl, upL], .inr ⟨rfl, fun h => hl (h.2 i (by omega) hi)⟩⟩
    ·right
     rw [if_neg hi0, Q49]
     refine ⟨(st u (gt y i).Action true, i + 1), by simp [nx, hw], go (.inl (by omega)), by dsimp only; omega⟩
   ·left
    rw [if_neg hi]
    rw [List.take_of_length_le (by omega)] at h2
    refine ⟨_, rfl, .inl ⟨u, rfl, ⟨h4, ?_⟩, h2, fun j j0 j1 => h3 j j0 (by omega)⟩⟩
    rw [List.take_of_length_le (by omega)] at h5
    exact h5) (List.replicate (x.length : Int).toNat false, 0) ⟨Int.le_refl _, by dsimp only; omega, by simp, fun j j0 j1 => by dsimp only at j1; omega, by simp, fun k k0 k1 => by
    dsimp only
    unfold gt
    rw [List.getD_eq_getElem?_getD, List.getElem?_replicate]
    split <;> simp⟩
 rcases hq with ⟨u, rfl, h⟩ | ⟨rfl, h⟩
 ·exact .inl ⟨u, hr, h⟩
 ·exact .inr ⟨hr, h⟩
theorem Q236 (n : Int) (x : List Bs) (y : List Q0) (z : List Q1) (hy : (y.length : Int) ≤ 9223372036854775807) (hx : x.length ≤ 8) :
 ∃ b, Q41.f n x y z = some b ∧ (b = true ↔ (∀ e ∈ y, EdgeIn n x.length e) ∧ Rise edgeLt y ∧ UsedS x.length y) := by
 have hrep : ((List.replicate (x.length : Int).toNat (false : Bool)).length : Int) = x.length := by simp
 unfold Q41.f
 rw [if_pos (by omega)]
 rcases Q239 n x y hy with ⟨u, hu, ⟨t1, t2⟩, he, hr⟩ | ⟨hu, hn⟩
 ·rw [hu, Q49]
  rcases Q103 (body := fun t_ : Int => Q41.l1b x u t_) (N := x.length) (p := fun i => gt u i = true) (bad := false) (by omega) 0 (by decide) (fun i h0 h1 => by
   simp only [Q41.l1b]
   rw [hrep, if_pos h1, if_pos ⟨h0, h1⟩]
   by_cases hp : gt u i = true
   ·left; rw [if_pos hp]; exact ⟨hp, rfl⟩
   ·right; rw [if_neg hp]; exact ⟨hp, rfl⟩) (fun i h => by simp only [Q41.l1b]; rw [hrep, if_neg h]; rfl) with ⟨h, q⟩ | ⟨h, i, i0, i1, i2⟩
  ·exact ⟨true, by rw [show Q41.l1 x u 0 = _ from h]; rfl, by simp only [true_iff]; exact ⟨he, hr, fun k k0 k1 => (t2 k k0 k1).1 (q k k0 k1)⟩⟩
  ·exact ⟨false, by rw [show Q41.l1 x u 0 = _ from h]; rfl, by simp only [Bool.false_eq_true, false_iff]; exact fun hh => i2 ((t2 i i0 i1).2 (hh.2.2 i i0 i1))⟩
 ·rw [hu]
  exact ⟨false, rfl, by simp only [Bool.false_eq_true, false_iff]; exact fun hh => hn ⟨hh.1, hh.2.1⟩⟩
end Go.Bw
namespace Go.Bw
open Go Go.RowKit

theorem refStates (n : Int) (z : List Q1) (i : Int) (ha : ((gt z i).States.length : Int) ≤ 9223372036854775807) :
 (Q39.l1 n z i 0 = some (.inl ()) ∧ StatesS n (gt z i).States) ∨ (Q39.l1 n z i 0 = some (.inr (.inr (.inr false))) ∧ ¬ StatesS n (gt z i).States) := by
 generalize hS : (gt z i).States = S at ha
 have key := Q103 (body := fun t_ : Int => Q39.l1b n z i t_) (N := S.length) (p := fun k => (0 ≤ gt S k ∧ gt S k < n) ∧ (0 < k → gt S (k - 1) < gt S k)) (bad := .inr (.inr false)) ha 0 (by decide) (fun k k0 k1 => by
  simp only [Q39.l1b, hS]
  rw [if_pos k1, if_pos ⟨k0, k1⟩]
  by_cases e1 : gt S k < 0
  ·right; exact ⟨fun h => by have := h.1.1; omega, by simp [e1, jn, upL]⟩
  by_cases e2 : n ≤ gt S k
  ·right; exact ⟨fun h => by have := h.1.2; omega, by simp [e1, e2, jn, upL]⟩
  by_cases hk : 0 < k
  ·have hc : (0 : Int) ≤ k - 1 ∧ k - 1 < (S.length : Int) := by omega
   have hk' : 1 ≤ k := by omega
   rw [wrap64 (x := k - 1) (by omega) (by omega)]
   by_cases hl : gt S k ≤ gt S (k - 1)
   ·right; exact ⟨fun h => by have := h.2 hk; omega, by simp [e1, e2, hk, hk', hc, hl, jn, upL]⟩
   ·left; exact ⟨⟨by omega, fun _ => by omega⟩, by simp [e1, e2, hk, hk', hc, hl, jn, nx]⟩
  ·left; exact ⟨⟨by omega, fun h => absurd h hk⟩, by simp [e1, e2, hk, jn, nx]⟩) (fun k h => by simp only [Q39.l1b, hS]; rw [if_neg h]; rfl)
 have hiff : (∀ k : Int, 0 ≤ k → k < (S.length : Int) → (0 ≤ gt S k ∧ gt S k < n) ∧ (0 < k → gt S (k - 1) < gt S k)) ↔ StatesS n S := by
  constructor
  ·intro h
   refine ⟨fun s hs => ?_, fun k k0 k1 => (h k (by omega) k1).2 (by omega)⟩
   obtain ⟨q, hq, rfl⟩ := List.getElem_of_mem hs
   have := (h q (by omega) (by omega)).1
   rwa [Q120 (List.getElem?_eq_getElem hq)] at this
  ·rintro ⟨h1, h2⟩ k k0 k1
   exact ⟨h1 _ (Q47 k0 k1), fun h => h2 k (by omega) k1⟩
 rcases key with ⟨h, q⟩ | ⟨h, k, k0, k1, k2⟩
 ·exact .inl ⟨h, hiff.1 q⟩
 ·exact .inr ⟨h, fun hr => k2 (hiff.2 hr k k0 k1)⟩
theorem refProps (n : Int) (z : List Q1) (hz : z.length ≤ 8) (hs : ∀ p ∈ z, (p.States.length : Int) ≤ 9223372036854775807) :
 (Q39.l0 n z [] 0 = some (.inl (z.map (·.Name))) ∧ ∀ p ∈ z, StatesS n p.States) ∨ (Q39.l0 n z [] 0 = some (.inr false) ∧ ¬ ∀ p ∈ z, StatesS n p.States) := by
 obtain ⟨r, hr, hq⟩ := Q94 (body := fun t_ : List Bs × Int => Q39.l0b n z t_.1 t_.2) (fun s => 0 ≤ s.2 ∧ s.2 ≤ (z.length : Int) ∧ s.1 = (z.take s.2.toNat).map (·.Name) ∧ ∀ p ∈ z.take s.2.toNat, StatesS n p.States)
  (fun r => (r = .inl (z.map (·.Name)) ∧ ∀ p ∈ z, StatesS n p.States) ∨ (r = .inr false ∧ ¬ ∀ p ∈ z, StatesS n p.States)) (fun s => ((z.length : Int) - s.2).toNat) (fun ⟨l, i⟩ ⟨h0, h1, h2, h3⟩ => by
   dsimp only at h0 h1 h2 h3 ⊢
   subst h2
   unfold Q39.l0b
   by_cases hi : i < (z.length : Int)
   ·have hm := Q47 h0 hi
    rw [if_pos hi, if_pos ⟨h0, hi⟩, if_pos (by simp; omega)]
    have ht : z.take (i + 1).toNat = z.take i.toNat ++ [gt z i] := by
     rw [show (i + 1).toNat = i.toNat + 1 from by omega, List.take_add_one, Q102 h0 hi]; rfl
    rcases refStates n z i (hs _ hm) with ⟨hl, hp⟩ | ⟨hl, hp⟩
    ·right
     rw [hl, Q49, wrap64 (x := i + 1) (by omega) (by omega)]
     refine ⟨_, rfl, ⟨by dsimp only; omega, by dsimp only; omega, by dsimp only; rw [ht]; simp, fun p hp' => ?_⟩, by dsimp only; omega⟩
     dsimp only at hp'
     rw [ht] at hp'
     rcases List.mem_append.1 hp' with h | h
     ·exact h3 p h
     ·simp at h; subst h; exact hp
    ·left
     rw [hl]
     exact ⟨.inr false, rfl, .inr ⟨rfl, fun h => hp (h _ hm)⟩⟩
   ·left
    rw [if_neg hi]
    rw [List.take_of_length_le (by omega)] at h3 ⊢
    exact ⟨_, rfl, .inl ⟨rfl, h3⟩⟩) ([], 0) ⟨Int.le_refl _, by dsimp only; omega, by simp, by simp⟩
 rcases hq with ⟨rfl, h⟩ | ⟨rfl, h⟩
 ·exact .inl ⟨hr, h⟩
 ·exact .inr ⟨hr, h⟩
theorem Q136 (z : List Q1) {i : Int} (h0 : 0 ≤ i) (h1 : i < (z.length : Int)) : gt (z.map (·.Name)) i = (gt z i).Name := by
 unfold gt
 rw [List.getD_eq_getElem?_getD, List.getD_eq_getElem?_getD, List.getElem?_map, List.getElem?_eq_getElem (by omega)]
 rfl
theorem rise_map (z : List Q1) : Rise BLt (z.map (·.Name)) ↔ Rise (fun p q => BLt p.Name q.Name) z := by
 unfold Rise
 rw [List.length_map]
 constructor
 ·intro h i i0 i1
  have := h i i0 i1
  rwa [Q136 z (by omega) (by omega), Q136 z (by omega) i1] at this
 ·intro h i i0 i1
  rw [Q136 z (by omega) (by omega), Q136 z (by omega) i1]
  exact h i i0 i1
theorem Q256 (n : Int) (x : List Bs) (y : List Q0) (z : List Q1) (hs : ∀ p ∈ z, (p.States.length : Int) ≤ 9223372036854775807) : ∃ b, Q39.f n x y z = some b ∧ (b = true ↔ RightS n x y z) := by
 have no : ∀ {P : Prop}, ¬ P → (false = true ↔ P) := fun h => ⟨fun e => (by cases e), fun p => absurd p h⟩
 unfold Q39.f
 by_cases h1 : n < 1
 ·exact ⟨false, by simp [h1, jn], no fun h => by have := h.n0; omega⟩
 by_cases h2 : 24 < n
 ·exact ⟨false, by simp [h1, h2, jn], no fun h => by have := h.n1; omega⟩
 by_cases h3 : 8 < (x.length : Int)
 ·exact ⟨false, by simp [h1, h2, h3, jn], no fun h => by have := h.nx; omega⟩
 by_cases h4 : 8 < (z.length : Int)
 ·exact ⟨false, by simp [h1, h2, h3, h4, jn], no fun h => by have := h.nz; omega⟩
 by_cases h5 : 200 < (y.length : Int)
 ·exact ⟨false, by simp [h1, h2, h3, h4, h5, jn], no fun h => by have := h.ny; omega⟩
 simp only [if_neg h1, Q49, decide_eq_false h2, decide_eq_false h3, decide_eq_false h4, decide_eq_false h5, Bool.false_eq_true, if_false]
 rcases refProps n z (by omega) hs with ⟨hp, hpp⟩ | ⟨hp, hpp⟩
 ·rw [hp, Q49]
  obtain ⟨b1, hb1, c1⟩ := Q184 (z.map (·.Name)) (by simp; omega)
  obtain ⟨b2, hb2, c2⟩ := Q184 x (by omega)
  obtain ⟨b3, hb3, c3⟩ := Q236 n x y z (by omega) (by omega)
  have c1' : b1 = true ↔ (∀ p ∈ z, NameS p.Name) ∧ Rise (fun p q => BLt p.Name q.Name) z := by
   rw [c1, rise_map]
   simp
  simp only [hb1, hb2, hb3, Option.bind_some]
  cases b1 with
  | false => exact ⟨false, by simp [jn], no fun h => by have := c1'.2 ⟨fun p hp => (h.pr p hp).1, h.rz⟩; cases this⟩
  | true =>
   cases b2 with
   | false => exact ⟨false, by simp [jn], no fun h => by have := c2.2 ⟨h.nm, h.rx⟩; cases this⟩
   | true =>
    cases b3 with
    | false => exact ⟨false, by simp [jn], no fun h => by have := c3.2 ⟨h.ed, h.re, h.us⟩; cases this⟩
    | true =>
     refine ⟨true, by simp [jn], ?_⟩
     simp only [true_iff]
     have k1 := c1'.1 rfl
     have k2 := c2.1 rfl
     have k3 := c3.1 rfl
     exact ⟨by omega, by omega, by omega, by omega, by omega, k3.1, fun p hp => ⟨k1.1 p hp, hpp p hp⟩, k2.1, k3.2.2, k3.2.1, k2.2, k1.2⟩
 ·rw [hp]
  exact ⟨false, rfl, no fun h => hpp fun p hp => (h.pr p hp).2⟩
theorem right_eq (n : Int) (x : List Bs) (y : List Q0) (z : List Q1) (hs : ∀ p ∈ z, (p.States.length : Int) ≤ 9223372036854775807) : ∃ b, Q9.f n x y z = some b ∧ Q39.f n x y z = some b := by
 obtain ⟨b, hb, h1⟩ := Q151 n x y z hs
 obtain ⟨c, hc, h2⟩ := Q256 n x y z hs
 have : b = c := by rw [Bool.eq_iff_iff, h1, h2]
 subst this
 exact ⟨b, hb, hc⟩
end Go.Bw
namespace Go.Bw
open Go Go.RowKit Go.Proofs Go.Sort

section
variable {α : Type}
def pwC (c : α → α → Option Int) : List α → Bool
 | [] => true
 | x :: xs => xs.all (fun y => match c y x with | some v => decide (0 ≤ v) | none => false) && pwC c xs
theorem pwC_mem {c cc : α → α → Option Int} (h : ∀ x y, Ap (cc x y) (c x y)) : ∀ {a : List α}, pwC cc a = true → a.Pairwise fun x y => (!(ltOf (gcf c)) y x) = true
 | [], _ => List.Pairwise.nil
 | x :: xs, e => by
  unfold pwC at e
  rw [Bool.and_eq_true, List.all_eq_true] at e
  refine List.Pairwise.cons (fun y hy => ?_) (pwC_mem h e.2)
  have := e.1 y hy
  cases hc : cc y x with
  | none => rw [hc] at this; cases this
  | some v =>
   rw [hc] at this
   have hv := h y x v hc
   unfold ltOf gcf
   rw [hv]
   simpa using this
def asisC (c : α → α → Option Int) (a : List α) : Option (List α) := if pwC c a = true then some a else none
theorem asis_mem {c cc : α → α → Option Int} (h : ∀ x y, Ap (cc x y) (c x y)) {a r : List α} (e : asisC cc a = some r) : r = a ∧ byCmp c a = a := by
 unfold asisC at e
 split at e
 ·rename_i hp
  exact ⟨(Option.some.inj e).symm, List.mergeSort_of_pairwise (pwC_mem h hp)⟩
 ·cases e
end
def fewC {α : Type} (o : Option (List α)) : Option (List α) := o.bind fun a => if a.length ≤ 1000 then some a else none
theorem few_mem {α : Type} {o : Option (List α)} {r : List α} (h : fewC o = some r) : o = some r ∧ r.length ≤ 1000 := by
 unfold fewC at h
 cases o with
 | none => cases h
 | some a =>
  simp only [Option.bind_some] at h
  split at h
  ·rename_i hl
   obtain rfl := Option.some.inj h
   exact ⟨rfl, hl⟩
  ·cases h
end Go.Bw
namespace Go.Bw
open Go Go.RowKit
noncomputable def Q45.fc (fu : Nat) (a0 a1_0 : Int) (a1_1 : List Bs) (a1_2 : List Q0) (a1_3 : List Q1) : Option Bool :=
 jn (
 if 0 ≤ a0 then
 some (.inl (decide (a0 < a1_0)))
 else
 some (.inl false)) (fun (x452 : Bool) =>
 some x452)
theorem Q45.f_ap (fu : Nat) (a0 a1_0 : Int) (a1_1 : List Bs) (a1_2 : List Q0) (a1_3 : List Q1) : Ap (Q45.fc fu a0 a1_0 a1_1 a1_2 a1_3) (Q45.f a0 a1_0 a1_1 a1_2 a1_3) := by
 unfold Q45.fc Q45.f
 repeat' with_reducible first | apply Ap.jn | apply Ap.ite | exact Ap.refl _ | intro
noncomputable def Q63.fc (fu : Nat) (a0 : Int) : Option Bool :=
 jn (
 if 97 ≤ a0 then
 some (.inl (decide (a0 ≤ 122)))
 else
 some (.inl false)) (fun (x452 : Bool) =>
 jn (
 if x452 = true then
 some (.inl true)
 else
 jn (
 if 65 ≤ a0 then
 some (.inl (decide (a0 ≤ 90)))
 else
 some (.inl false)) (fun (x1481 : Bool) =>
 some (.inl x1481))) (fun (x657 : Bool) =>
 jn (
 if x657 = true then
 some (.inl true)
 else
 jn (
 if 48 ≤ a0 then
 some (.inl (decide (a0 ≤ 57)))
 else
 some (.inl false)) (fun (x1274 : Bool) =>
 some (.inl x1274))) (fun (x862 : Bool) =>
 jn (
 if x862 = true then
 some (.inl true)
 else
 some (.inl (decide (a0 = 95)))) (fun (x1067 : Bool) =>
 some (!x1067)))))
theorem Q63.f_ap (fu : Nat) (a0 : Int) : Ap (Q63.fc fu a0) (Q63.f a0) := by
 unfold Q63.fc Q63.f
 repeat' with_reducible first | apply Ap.jn | apply Ap.ite | exact Ap.refl _ | intro
noncomputable def Q30.l0bc (fu : Nat) (a0 : Bs) (a2 : Bool) (x856 : Nat) : Option ((Nat) ⊕ ((Nat) ⊕ (Int))) :=
 if x856 < a0.length then
 (Q63.fc fu (runeAt a0 x856)).bind fun t1070 =>
 if (t1070 == a2) = true then
 upL (some (x856 : Int))
 else
 nx (x856 + runeLen a0 x856)
 else
 dn (.inl x856)
theorem Q30.l0b_ap (fu : Nat) (a0 : Bs) (a2 : Bool) (x856 : Nat) : Ap (Q30.l0bc fu a0 a2 x856) (Q30.l0b a0 a2 x856) := by
 unfold Q30.l0bc Q30.l0b
 repeat' with_reducible first | apply Q63.f_ap | apply Ap.ite | apply Ap.upL | apply Ap.bind | exact Ap.refl _ | intro
noncomputable def Q30.l0c (fu : Nat) (a0 : Bs) (a2 : Bool) (x856 : Nat) : Option ((Nat) ⊕ (Int)) := iterC fu (fun t_ : Nat => Q30.l0bc fu a0 a2 t_) x856
theorem Q30.l0_ap (fu : Nat) (a0 : Bs) (a2 : Bool) (x856 : Nat) : Ap (Q30.l0c fu a0 a2 x856) (Q30.l0 a0 a2 x856) := by
 unfold Q30.l0c Q30.l0
 repeat' with_reducible first | apply Q30.l0b_ap | apply Ap.iter | exact Ap.refl _ | intro
noncomputable def Q30.fc (fu : Nat) (a0 : Bs) (a2 : Bool) : Option Int :=
 jn (Q30.l0c fu a0 a2 0) (fun (x1057 : Nat) =>
 some (-1))
theorem Q30.f_ap (fu : Nat) (a0 : Bs) (a2 : Bool) : Ap (Q30.fc fu a0 a2) (Q30.f a0 a2) := by
 unfold Q30.fc Q30.f
 repeat' with_reducible first | apply Q30.l0_ap | apply Ap.jn | exact Ap.refl _ | intro
noncomputable def Q73.fc (fu : Nat) (a0 : Bs) : Option Int :=
 (Q30.fc fu a0 true).bind fun t252 =>
 some t252
theorem Q73.f_ap (fu : Nat) (a0 : Bs) : Ap (Q73.fc fu a0) (Q73.f a0) := by
 unfold Q73.fc Q73.f
 repeat' with_reducible first | apply Q30.f_ap | apply Ap.bind | exact Ap.refl _ | intro
noncomputable def Q70.fc (fu : Nat) (a0 : Bs) : Option Bool :=
 (Q73.fc fu a0).bind fun t252 =>
 some (decide (0 ≤ t252))
theorem Q70.f_ap (fu : Nat) (a0 : Bs) : Ap (Q70.fc fu a0) (Q70.f a0) := by
 unfold Q70.fc Q70.f
 repeat' with_reducible first | apply Q73.f_ap | apply Ap.bind | exact Ap.refl _ | intro
noncomputable def Q44.fc (fu : Nat) (a0 : Bs) : Option Bool :=
 jn (
 if (a0.length : Int) < 1 then
 some (.inl true)
 else
 some (.inl (decide (8 < (a0.length : Int))))) (fun (x452 : Bool) =>
 jn (
 if x452 = true then
 some (.inl true)
 else
 if (0 : Int) ≤ 0 ∧ 0 < (a0.length : Int) then
 some (.inl (decide (bat a0 0 < 97)))
 else none) (fun (x657 : Bool) =>
 jn (
 if x657 = true then
 some (.inl true)
 else
 if (0 : Int) ≤ 0 ∧ 0 < (a0.length : Int) then
 some (.inl (decide (122 < bat a0 0)))
 else none) (fun (x862 : Bool) =>
 if x862 = true then
 some false
 else
 if bseqC a0 ([116, 116] : Bs) = true then
 some false
 else
 if bseqC a0 ([102, 102] : Bs) = true then
 some false
 else
 if bseqC a0 ([109, 117] : Bs) = true then
 some false
 else
 if bseqC a0 ([110, 117] : Bs) = true then
 some false
 else
 (Q70.fc fu a0).bind fun t875 =>
 some (!t875))))
theorem Q44.f_ap (fu : Nat) (a0 : Bs) : Ap (Q44.fc fu a0) (Q44.f a0) := by
 unfold Q44.fc Q44.f
 rw [Q124]
 repeat' with_reducible first | apply Q70.f_ap | exact Ap.none | apply Ap.jn | apply Ap.ite | apply Ap.bind | exact Ap.refl _ | intro
noncomputable def Q57.fc (fu : Nat) (a0 : Int) : Option Bool :=
 some (!(decide (a0 = a0)))
theorem Q57.f_ap (fu : Nat) (a0 : Int) : Ap (Q57.fc fu a0) (Q57.f a0) := by
 unfold Q57.fc Q57.f
 repeat' with_reducible first | exact Ap.refl _
noncomputable def Q43.fc (fu : Nat) (a0 a1 : Int) : Option Int :=
 (Q57.fc fu a0).bind fun t252 =>
 (Q57.fc fu a1).bind fun t254 =>
 if t252 = true then
 if t254 = true then
 some 0
 else
 some (-1)
 else
 if t254 = true then
 some 1
 else
 if a0 < a1 then
 some (-1)
 else
 if a1 < a0 then
 some 1
 else
 some 0
theorem Q43.f_ap (fu : Nat) (a0 a1 : Int) : Ap (Q43.fc fu a0 a1) (Q43.f a0 a1) := by
 unfold Q43.fc Q43.f
 repeat' with_reducible first | apply Q57.f_ap | apply Ap.ite | apply Ap.bind | exact Ap.refl _ | intro
noncomputable def Q25.l0bc (fu : Nat) (a0 : List Int) (x853 : Int) : Option ((Int) ⊕ ((Unit) ⊕ (Bool))) :=
 if x853 < (a0.length : Int) then
 if (0 : Int) ≤ IntKind.i64.wrap (x853 - 1) ∧ IntKind.i64.wrap (x853 - 1) < (a0.length : Int) then
 if (0 : Int) ≤ x853 ∧ x853 < (a0.length : Int) then
 (Q43.fc fu (gt a0 (IntKind.i64.wrap (x853 - 1))) (gt a0 x853)).bind fun t1068 =>
 if 0 ≤ t1068 then
 upL (some false)
 else
 nx (IntKind.i64.wrap (x853 + 1))
 else none
 else none
 else
 dn (.inl ())
theorem Q25.l0b_ap (fu : Nat) (a0 : List Int) (x853 : Int) : Ap (Q25.l0bc fu a0 x853) (Q25.l0b a0 x853) := by
 unfold Q25.l0bc Q25.l0b
 repeat' with_reducible first | apply Q43.f_ap | exact Ap.none | apply Ap.ite | apply Ap.upL | apply Ap.bind | exact Ap.refl _ | intro
noncomputable def Q25.l0c (fu : Nat) (a0 : List Int) (x853 : Int) : Option ((Unit) ⊕ (Bool)) := iterC fu (fun t_ : Int => Q25.l0bc fu a0 t_) x853
theorem Q25.l0_ap (fu : Nat) (a0 : List Int) (x853 : Int) : Ap (Q25.l0c fu a0 x853) (Q25.l0 a0 x853) := by
 unfold Q25.l0c Q25.l0
 repeat' with_reducible first | apply Q25.l0b_ap | apply Ap.iter | exact Ap.refl _ | intro
noncomputable def Q25.fc (fu : Nat) (a0 : List Int) : Option Bool :=
 jn (Q25.l0c fu a0 1) (fun (_ : Unit) =>
 some true)
theorem Q25.f_ap (fu : Nat) (a0 : List Int) : Ap (Q25.fc fu a0) (Q25.f a0) := by
 unfold Q25.fc Q25.f
 repeat' with_reducible first | apply Q25.l0_ap | apply Ap.jn | exact Ap.refl _ | intro
noncomputable def Q71.fc (fu : Nat) (a0 a1_0_c0_0 : Int) (a1_0_c0_1 : List Bs) (a1_0_c0_2 : List Q0) (a1_0_c0_3 : List Q1) : Option Bool :=
 (Q45.fc fu a0 a1_0_c0_0 a1_0_c0_1 a1_0_c0_2 a1_0_c0_3).bind fun t252 =>
 some (!t252)
theorem Q71.f_ap (fu : Nat) (a0 a1_0_c0_0 : Int) (a1_0_c0_1 : List Bs) (a1_0_c0_2 : List Q0) (a1_0_c0_3 : List Q1) : Ap (Q71.fc fu a0 a1_0_c0_0 a1_0_c0_1 a1_0_c0_2 a1_0_c0_3) (Q71.f a0 a1_0_c0_0 a1_0_c0_1 a1_0_c0_2 a1_0_c0_3) := by
 unfold Q71.fc Q71.f
 repeat' with_reducible first | apply Q45.f_ap | apply Ap.bind | exact Ap.refl _ | intro
noncomputable def Q24.l0bc (fu : Nat) (a0 : List Int) (a1_c0_0_c0_0 : Int) (a1_c0_0_c0_1 : List Bs) (a1_c0_0_c0_2 : List Q0) (a1_c0_0_c0_3 : List Q1) (x853 : Int) : Option ((Int) ⊕ ((Unit) ⊕ (Int))) :=
 if x853 < (a0.length : Int) then
 if (0 : Int) ≤ x853 ∧ x853 < (a0.length : Int) then
 (Q71.fc fu (gt a0 x853) a1_c0_0_c0_0 a1_c0_0_c0_1 a1_c0_0_c0_2 a1_c0_0_c0_3).bind fun t1067 =>
 if t1067 = true then
 upL (some x853)
 else
 nx (IntKind.i64.wrap (x853 + 1))
 else none
 else
 dn (.inl ())
theorem Q24.l0b_ap (fu : Nat) (a0 : List Int) (a1_c0_0_c0_0 : Int) (a1_c0_0_c0_1 : List Bs) (a1_c0_0_c0_2 : List Q0) (a1_c0_0_c0_3 : List Q1) (x853 : Int) : Ap (Q24.l0bc fu a0 a1_c0_0_c0_0 a1_c0_0_c0_1 a1_c0_0_c0_2 a1_c0_0_c0_3 x853) (Q24.l0b a0 a1_c0_0_c0_0 a1_c0_0_c0_1 a1_c0_0_c0_2 a1_c0_0_c0_3 x853) := by
 unfold Q24.l0bc Q24.l0b
 repeat' with_reducible first | apply Q71.f_ap | exact Ap.none | apply Ap.ite | apply Ap.upL | apply Ap.bind | exact Ap.refl _ | intro
noncomputable def Q24.l0c (fu : Nat) (a0 : List Int) (a1_c0_0_c0_0 : Int) (a1_c0_0_c0_1 : List Bs) (a1_c0_0_c0_2 : List Q0) (a1_c0_0_c0_3 : List Q1) (x853 : Int) : Option ((Unit) ⊕ (Int)) := iterC fu (fun t_ : Int => Q24.l0bc fu a0 a1_c0_0_c0_0 a1_c0_0_c0_1 a1_c0_0_c0_2 a1_c0_0_c0_3 t_) x853
theorem Q24.l0_ap (fu : Nat) (a0 : List Int) (a1_c0_0_c0_0 : Int) (a1_c0_0_c0_1 : List Bs) (a1_c0_0_c0_2 : List Q0) (a1_c0_0_c0_3 : List Q1) (x853 : Int) : Ap (Q24.l0c fu a0 a1_c0_0_c0_0 a1_c0_0_c0_1 a1_c0_0_c0_2 a1_c0_0_c0_3 x853) (Q24.l0 a0 a1_c0_0_c0_0 a1_c0_0_c0_1 a1_c0_0_c0_2 a1_c0_0_c0_3 x853) := by
 unfold Q24.l0c Q24.l0
 repeat' with_reducible first | apply Q24.l0b_ap | apply Ap.iter | exact Ap.refl _ | intro
noncomputable def Q24.fc (fu : Nat) (a0 : List Int) (a1_c0_0_c0_0 : Int) (a1_c0_0_c0_1 : List Bs) (a1_c0_0_c0_2 : List Q0) (a1_c0_0_c0_3 : List Q1) : Option Int :=
 jn (Q24.l0c fu a0 a1_c0_0_c0_0 a1_c0_0_c0_1 a1_c0_0_c0_2 a1_c0_0_c0_3 0) (fun (_ : Unit) =>
 some (-1))
theorem Q24.f_ap (fu : Nat) (a0 : List Int) (a1_c0_0_c0_0 : Int) (a1_c0_0_c0_1 : List Bs) (a1_c0_0_c0_2 : List Q0) (a1_c0_0_c0_3 : List Q1) : Ap (Q24.fc fu a0 a1_c0_0_c0_0 a1_c0_0_c0_1 a1_c0_0_c0_2 a1_c0_0_c0_3) (Q24.f a0 a1_c0_0_c0_0 a1_c0_0_c0_1 a1_c0_0_c0_2 a1_c0_0_c0_3) := by
 unfold Q24.fc Q24.f
 repeat' with_reducible first | apply Q24.l0_ap | apply Ap.jn | exact Ap.refl _ | intro
noncomputable def Q67.fc (fu : Nat) (a0 : List Int) (a1_c0_0_c0_0 : Int) (a1_c0_0_c0_1 : List Bs) (a1_c0_0_c0_2 : List Q0) (a1_c0_0_c0_3 : List Q1) : Option Bool :=
 (Q24.fc fu a0 a1_c0_0_c0_0 a1_c0_0_c0_1 a1_c0_0_c0_2 a1_c0_0_c0_3).bind fun t252 =>
 some (decide (0 ≤ t252))
theorem Q67.f_ap (fu : Nat) (a0 : List Int) (a1_c0_0_c0_0 : Int) (a1_c0_0_c0_1 : List Bs) (a1_c0_0_c0_2 : List Q0) (a1_c0_0_c0_3 : List Q1) : Ap (Q67.fc fu a0 a1_c0_0_c0_0 a1_c0_0_c0_1 a1_c0_0_c0_2 a1_c0_0_c0_3) (Q67.f a0 a1_c0_0_c0_0 a1_c0_0_c0_1 a1_c0_0_c0_2 a1_c0_0_c0_3) := by
 unfold Q67.fc Q67.f
 repeat' with_reducible first | apply Q24.f_ap | apply Ap.bind | exact Ap.refl _ | intro
noncomputable def Q72.fc (fu : Nat) (a0 : Bs) : Option Bool :=
 (Q44.fc fu a0).bind fun t252 =>
 some (!t252)
theorem Q72.f_ap (fu : Nat) (a0 : Bs) : Ap (Q72.fc fu a0) (Q72.f a0) := by
 unfold Q72.fc Q72.f
 repeat' with_reducible first | apply Q44.f_ap | apply Ap.bind | exact Ap.refl _ | intro
noncomputable def Q26.l0bc (fu : Nat) (a0 : List Bs) (x853 : Int) : Option ((Int) ⊕ ((Unit) ⊕ (Int))) :=
 if x853 < (a0.length : Int) then
 if (0 : Int) ≤ x853 ∧ x853 < (a0.length : Int) then
 (Q72.fc fu (gt a0 x853)).bind fun t1067 =>
 if t1067 = true then
 upL (some x853)
 else
 nx (IntKind.i64.wrap (x853 + 1))
 else none
 else
 dn (.inl ())
theorem Q26.l0b_ap (fu : Nat) (a0 : List Bs) (x853 : Int) : Ap (Q26.l0bc fu a0 x853) (Q26.l0b a0 x853) := by
 unfold Q26.l0bc Q26.l0b
 repeat' with_reducible first | apply Q72.f_ap | exact Ap.none | apply Ap.ite | apply Ap.upL | apply Ap.bind | exact Ap.refl _ | intro
noncomputable def Q26.l0c (fu : Nat) (a0 : List Bs) (x853 : Int) : Option ((Unit) ⊕ (Int)) := iterC fu (fun t_ : Int => Q26.l0bc fu a0 t_) x853
theorem Q26.l0_ap (fu : Nat) (a0 : List Bs) (x853 : Int) : Ap (Q26.l0c fu a0 x853) (Q26.l0 a0 x853) := by
 unfold Q26.l0c Q26.l0
 repeat' with_reducible first | apply Q26.l0b_ap | apply Ap.iter | exact Ap.refl _ | intro
noncomputable def Q26.fc (fu : Nat) (a0 : List Bs) : Option Int :=
 jn (Q26.l0c fu a0 0) (fun (_ : Unit) =>
 some (-1))
theorem Q26.f_ap (fu : Nat) (a0 : List Bs) : Ap (Q26.fc fu a0) (Q26.f a0) := by
 unfold Q26.fc Q26.f
 repeat' with_reducible first | apply Q26.l0_ap | apply Ap.jn | exact Ap.refl _ | intro
noncomputable def Q68.fc (fu : Nat) (a0 : List Bs) : Option Bool :=
 (Q26.fc fu a0).bind fun t252 =>
 some (decide (0 ≤ t252))
theorem Q68.f_ap (fu : Nat) (a0 : List Bs) : Ap (Q68.fc fu a0) (Q68.f a0) := by
 unfold Q68.fc Q68.f
 repeat' with_reducible first | apply Q26.f_ap | apply Ap.bind | exact Ap.refl _ | intro
noncomputable def Q19.l0bc (fu : Nat) (a0 : List Int) (x853 : Int) : Option ((Int) ⊕ ((Unit) ⊕ (Int))) :=
 if x853 < (a0.length : Int) then
 if (0 : Int) ≤ x853 ∧ x853 < (a0.length : Int) then
 if gt a0 x853 = 0 then
 nx (IntKind.i64.wrap (x853 + 1))
 else
 upL (some (gt a0 x853))
 else none
 else
 dn (.inl ())
theorem Q19.l0b_ap (fu : Nat) (a0 : List Int) (x853 : Int) : Ap (Q19.l0bc fu a0 x853) (Q19.l0b a0 x853) := by
 unfold Q19.l0bc Q19.l0b
 repeat' with_reducible first | exact Ap.none | apply Ap.ite | apply Ap.upL | exact Ap.refl _
noncomputable def Q19.l0c (fu : Nat) (a0 : List Int) (x853 : Int) : Option ((Unit) ⊕ (Int)) := iterC fu (fun t_ : Int => Q19.l0bc fu a0 t_) x853
theorem Q19.l0_ap (fu : Nat) (a0 : List Int) (x853 : Int) : Ap (Q19.l0c fu a0 x853) (Q19.l0 a0 x853) := by
 unfold Q19.l0c Q19.l0
 repeat' with_reducible first | apply Q19.l0b_ap | apply Ap.iter | exact Ap.refl _ | intro
noncomputable def Q19.fc (fu : Nat) (a0 : List Int) : Option Int :=
 jn (Q19.l0c fu a0 0) (fun (_ : Unit) =>
 some 0)
theorem Q19.f_ap (fu : Nat) (a0 : List Int) : Ap (Q19.fc fu a0) (Q19.f a0) := by
 unfold Q19.fc Q19.f
 repeat' with_reducible first | apply Q19.l0_ap | apply Ap.jn | exact Ap.refl _ | intro
noncomputable def Q56.fc (fu : Nat) (a0_0 a0_1 a0_2 a1_0 a1_1 a1_2 : Int) : Option Int :=
 (Q43.fc fu a0_0 a1_0).bind fun t269 =>
 (Q43.fc fu a0_1 a1_1).bind fun t271 =>
 (Q43.fc fu a0_2 a1_2).bind fun t273 =>
 (Q19.fc fu ([t269, t271, t273] : List Int)).bind fun t284 =>
 some t284
theorem Q56.f_ap (fu : Nat) (a0_0 a0_1 a0_2 a1_0 a1_1 a1_2 : Int) : Ap (Q56.fc fu a0_0 a0_1 a0_2 a1_0 a1_1 a1_2) (Q56.f a0_0 a0_1 a0_2 a1_0 a1_1 a1_2) := by
 unfold Q56.fc Q56.f
 repeat' with_reducible first | apply Q43.f_ap | apply Q19.f_ap | apply Ap.bind | exact Ap.refl _ | intro
noncomputable def Q28.l0bc (fu : Nat) (a0 : List Q0) (x853 : Int) : Option ((Int) ⊕ ((Unit) ⊕ (Bool))) :=
 if x853 < (a0.length : Int) then
 if (0 : Int) ≤ IntKind.i64.wrap (x853 - 1) ∧ IntKind.i64.wrap (x853 - 1) < (a0.length : Int) then
 if (0 : Int) ≤ x853 ∧ x853 < (a0.length : Int) then
 (Q56.fc fu ((gt a0 (IntKind.i64.wrap (x853 - 1))).From) ((gt a0 (IntKind.i64.wrap (x853 - 1))).Action) ((gt a0 (IntKind.i64.wrap (x853 - 1))).To) ((gt a0 x853).From) ((gt a0 x853).Action) ((gt a0 x853).To)).bind fun t1068 =>
 if 0 ≤ t1068 then
 upL (some false)
 else
 nx (IntKind.i64.wrap (x853 + 1))
 else none
 else none
 else
 dn (.inl ())
theorem Q28.l0b_ap (fu : Nat) (a0 : List Q0) (x853 : Int) : Ap (Q28.l0bc fu a0 x853) (Q28.l0b a0 x853) := by
 unfold Q28.l0bc Q28.l0b
 repeat' with_reducible first | apply Q56.f_ap | exact Ap.none | apply Ap.ite | apply Ap.upL | apply Ap.bind | exact Ap.refl _ | intro
noncomputable def Q28.l0c (fu : Nat) (a0 : List Q0) (x853 : Int) : Option ((Unit) ⊕ (Bool)) := iterC fu (fun t_ : Int => Q28.l0bc fu a0 t_) x853
theorem Q28.l0_ap (fu : Nat) (a0 : List Q0) (x853 : Int) : Ap (Q28.l0c fu a0 x853) (Q28.l0 a0 x853) := by
 unfold Q28.l0c Q28.l0
 repeat' with_reducible first | apply Q28.l0b_ap | apply Ap.iter | exact Ap.refl _ | intro
noncomputable def Q28.fc (fu : Nat) (a0 : List Q0) : Option Bool :=
 jn (Q28.l0c fu a0 1) (fun (_ : Unit) =>
 some true)
theorem Q28.f_ap (fu : Nat) (a0 : List Q0) : Ap (Q28.fc fu a0) (Q28.f a0) := by
 unfold Q28.fc Q28.f
 repeat' with_reducible first | apply Q28.l0_ap | apply Ap.jn | exact Ap.refl _ | intro
noncomputable def Q69.fc (fu : Nat) (a0 a1 : Bs) : Option Int :=
 some (Lib.compareBytes a0 a1)
theorem Q69.f_ap (fu : Nat) (a0 a1 : Bs) : Ap (Q69.fc fu a0 a1) (Q69.f a0 a1) := by
 unfold Q69.fc Q69.f
 repeat' with_reducible first | exact Ap.refl _
noncomputable def Q53.fc (fu : Nat) (a0 a1 : Bs) : Option Int :=
 (Q69.fc fu a0 a1).bind fun t252 =>
 some t252
theorem Q53.f_ap (fu : Nat) (a0 a1 : Bs) : Ap (Q53.fc fu a0 a1) (Q53.f a0 a1) := by
 unfold Q53.fc Q53.f
 repeat' with_reducible first | apply Q69.f_ap | apply Ap.bind | exact Ap.refl _ | intro
noncomputable def Q29.l0bc (fu : Nat) (a0 : List Bs) (x853 : Int) : Option ((Int) ⊕ ((Unit) ⊕ (Bool))) :=
 if x853 < (a0.length : Int) then
 if (0 : Int) ≤ IntKind.i64.wrap (x853 - 1) ∧ IntKind.i64.wrap (x853 - 1) < (a0.length : Int) then
 if (0 : Int) ≤ x853 ∧ x853 < (a0.length : Int) then
 (Q53.fc fu (gt a0 (IntKind.i64.wrap (x853 - 1))) (gt a0 x853)).bind fun t1068 =>
 if 0 ≤ t1068 then
 upL (some false)
 else
 nx (IntKind.i64.wrap (x853 + 1))
 else none
 else none
 else
 dn (.inl ())
theorem Q29.l0b_ap (fu : Nat) (a0 : List Bs) (x853 : Int) : Ap (Q29.l0bc fu a0 x853) (Q29.l0b a0 x853) := by
 unfold Q29.l0bc Q29.l0b
 repeat' with_reducible first | apply Q53.f_ap | exact Ap.none | apply Ap.ite | apply Ap.upL | apply Ap.bind | exact Ap.refl _ | intro
noncomputable def Q29.l0c (fu : Nat) (a0 : List Bs) (x853 : Int) : Option ((Unit) ⊕ (Bool)) := iterC fu (fun t_ : Int => Q29.l0bc fu a0 t_) x853
theorem Q29.l0_ap (fu : Nat) (a0 : List Bs) (x853 : Int) : Ap (Q29.l0c fu a0 x853) (Q29.l0 a0 x853) := by
 unfold Q29.l0c Q29.l0
 repeat' with_reducible first | apply Q29.l0b_ap | apply Ap.iter | exact Ap.refl _ | intro
noncomputable def Q29.fc (fu : Nat) (a0 : List Bs) : Option Bool :=
 jn (Q29.l0c fu a0 1) (fun (_ : Unit) =>
 some true)
theorem Q29.f_ap (fu : Nat) (a0 : List Bs) : Ap (Q29.fc fu a0) (Q29.f a0) := by
 unfold Q29.fc Q29.f
 repeat' with_reducible first | apply Q29.l0_ap | apply Ap.jn | exact Ap.refl _ | intro
noncomputable def Q65.fc (fu : Nat) (a0_0 : Bs) (a0_1 : List Int) (a1_0 : Bs) (a1_1 : List Int) : Option Int :=
 (Q53.fc fu a0_0 a1_0).bind fun t256 =>
 some t256
theorem Q65.f_ap (fu : Nat) (a0_0 : Bs) (a0_1 : List Int) (a1_0 : Bs) (a1_1 : List Int) : Ap (Q65.fc fu a0_0 a0_1 a1_0 a1_1) (Q65.f a0_0 a0_1 a1_0 a1_1) := by
 unfold Q65.fc Q65.f
 repeat' with_reducible first | apply Q53.f_ap | apply Ap.bind | exact Ap.refl _ | intro
noncomputable def Q27.l0bc (fu : Nat) (a0 : List Q1) (x853 : Int) : Option ((Int) ⊕ ((Unit) ⊕ (Bool))) :=
 if x853 < (a0.length : Int) then
 if (0 : Int) ≤ IntKind.i64.wrap (x853 - 1) ∧ IntKind.i64.wrap (x853 - 1) < (a0.length : Int) then
 if (0 : Int) ≤ x853 ∧ x853 < (a0.length : Int) then
 (Q65.fc fu ((gt a0 (IntKind.i64.wrap (x853 - 1))).Name) ((gt a0 (IntKind.i64.wrap (x853 - 1))).States) ((gt a0 x853).Name) ((gt a0 x853).States)).bind fun t1082 =>
 if 0 ≤ t1082 then
 upL (some false)
 else
 nx (IntKind.i64.wrap (x853 + 1))
 else none
 else none
 else
 dn (.inl ())
theorem Q27.l0b_ap (fu : Nat) (a0 : List Q1) (x853 : Int) : Ap (Q27.l0bc fu a0 x853) (Q27.l0b a0 x853) := by
 unfold Q27.l0bc Q27.l0b
 repeat' with_reducible first | apply Q65.f_ap | exact Ap.none | apply Ap.ite | apply Ap.upL | apply Ap.bind | exact Ap.refl _ | intro
noncomputable def Q27.l0c (fu : Nat) (a0 : List Q1) (x853 : Int) : Option ((Unit) ⊕ (Bool)) := iterC fu (fun t_ : Int => Q27.l0bc fu a0 t_) x853
theorem Q27.l0_ap (fu : Nat) (a0 : List Q1) (x853 : Int) : Ap (Q27.l0c fu a0 x853) (Q27.l0 a0 x853) := by
 unfold Q27.l0c Q27.l0
 repeat' with_reducible first | apply Q27.l0b_ap | apply Ap.iter | exact Ap.refl _ | intro
noncomputable def Q27.fc (fu : Nat) (a0 : List Q1) : Option Bool :=
 jn (Q27.l0c fu a0 1) (fun (_ : Unit) =>
 some true)
theorem Q27.f_ap (fu : Nat) (a0 : List Q1) : Ap (Q27.fc fu a0) (Q27.f a0) := by
 unfold Q27.fc Q27.f
 repeat' with_reducible first | apply Q27.l0_ap | apply Ap.jn | exact Ap.refl _ | intro
noncomputable def Q9.l1bc (fu : Nat) (a0_0 : Int) (a0_1 : List Bs) (a0_2 : List Q0) (a0_3 : List Q1) (x2493 : Int) : Option ((Int) ⊕ ((Unit) ⊕ (Bool))) :=
 if x2493 < (a0_3.length : Int) then
 if (0 : Int) ≤ x2493 ∧ x2493 < (a0_3.length : Int) then
 (Q44.fc fu ((gt a0_3 x2493).Name)).bind fun t3343 =>
 jn (
 if t3343 = true then
 (Q25.fc fu ((gt a0_3 x2493).States)).bind fun t3760 =>
 some (.inl (!t3760))
 else
 some (.inl true)) (fun (x3545 : Bool) =>
 jn (
 if x3545 = true then
 some (.inl true)
 else
 (Q67.fc fu ((gt a0_3 x2493).States) a0_0 a0_1 a0_2 a0_3).bind fun t3757 =>
 some (.inl t3757)) (fun (x3750 : Bool) =>
 if x3750 = true then
 upL (some false)
 else
 nx (IntKind.i64.wrap (x2493 + 1))))
 else none
 else
 dn (.inl ())
theorem Q9.l1b_ap (fu : Nat) (a0_0 : Int) (a0_1 : List Bs) (a0_2 : List Q0) (a0_3 : List Q1) (x2493 : Int) : Ap (Q9.l1bc fu a0_0 a0_1 a0_2 a0_3 x2493) (Q9.l1b a0_0 a0_1 a0_2 a0_3 x2493) := by
 unfold Q9.l1bc Q9.l1b
 repeat' with_reducible first | apply Q44.f_ap | apply Q25.f_ap | apply Q67.f_ap | exact Ap.none | apply Ap.jn | apply Ap.ite | apply Ap.upL | apply Ap.bind | exact Ap.refl _ | intro
noncomputable def Q9.l1c (fu : Nat) (a0_0 : Int) (a0_1 : List Bs) (a0_2 : List Q0) (a0_3 : List Q1) (x2493 : Int) : Option ((Unit) ⊕ (Bool)) := iterC fu (fun t_ : Int => Q9.l1bc fu a0_0 a0_1 a0_2 a0_3 t_) x2493
theorem Q9.l1_ap (fu : Nat) (a0_0 : Int) (a0_1 : List Bs) (a0_2 : List Q0) (a0_3 : List Q1) (x2493 : Int) : Ap (Q9.l1c fu a0_0 a0_1 a0_2 a0_3 x2493) (Q9.l1 a0_0 a0_1 a0_2 a0_3 x2493) := by
 unfold Q9.l1c Q9.l1
 repeat' with_reducible first | apply Q9.l1b_ap | apply Ap.iter | exact Ap.refl _ | intro
noncomputable def Q9.l0bc (fu : Nat) (a0_0 : Int) (a0_1 : List Bs) (a0_2 : List Q0) (a0_3 : List Q1) (x1678 x1679 : Int) : Option ((Int × Int) ⊕ ((Int) ⊕ (Bool))) :=
 if x1679 < (a0_2.length : Int) then
 if (0 : Int) ≤ x1679 ∧ x1679 < (a0_2.length : Int) then
 (Q45.fc fu ((gt a0_2 x1679).From) a0_0 a0_1 a0_2 a0_3).bind fun t3765 =>
 jn (
 if t3765 = true then
 (Q45.fc fu ((gt a0_2 x1679).To) a0_0 a0_1 a0_2 a0_3).bind fun t4387 =>
 some (.inl (!t4387))
 else
 some (.inl true)) (fun (x3967 : Bool) =>
 jn (
 if x3967 = true then
 some (.inl true)
 else
 some (.inl (decide ((gt a0_2 x1679).Action < 0)))) (fun (x4172 : Bool) =>
 jn (
 if x4172 = true then
 some (.inl true)
 else
 some (.inl (decide ((a0_1.length : Int) ≤ (gt a0_2 x1679).Action)))) (fun (x4377 : Bool) =>
 if x4377 = true then
 upL (some false)
 else
 if (0 : Int) ≤ (gt a0_2 x1679).Action then
 nx (bor .u8 x1678 (Bw.shl .u8 1 ((gt a0_2 x1679).Action)), IntKind.i64.wrap (x1679 + 1))
 else none)))
 else none
 else
 dn (.inl x1678)
theorem Q9.l0b_ap (fu : Nat) (a0_0 : Int) (a0_1 : List Bs) (a0_2 : List Q0) (a0_3 : List Q1) (x1678 x1679 : Int) : Ap (Q9.l0bc fu a0_0 a0_1 a0_2 a0_3 x1678 x1679) (Q9.l0b a0_0 a0_1 a0_2 a0_3 x1678 x1679) := by
 unfold Q9.l0bc Q9.l0b
 repeat' with_reducible first | apply Q45.f_ap | exact Ap.none | apply Ap.jn | apply Ap.ite | apply Ap.upL | apply Ap.bind | exact Ap.refl _ | intro
noncomputable def Q9.l0c (fu : Nat) (a0_0 : Int) (a0_1 : List Bs) (a0_2 : List Q0) (a0_3 : List Q1) (x1678 x1679 : Int) : Option ((Int) ⊕ (Bool)) := iterC fu (fun t_ : Int × Int => Q9.l0bc fu a0_0 a0_1 a0_2 a0_3 t_.1 t_.2) (x1678, x1679)
theorem Q9.l0_ap (fu : Nat) (a0_0 : Int) (a0_1 : List Bs) (a0_2 : List Q0) (a0_3 : List Q1) (x1678 x1679 : Int) : Ap (Q9.l0c fu a0_0 a0_1 a0_2 a0_3 x1678 x1679) (Q9.l0 a0_0 a0_1 a0_2 a0_3 x1678 x1679) := by
 unfold Q9.l0c Q9.l0
 repeat' with_reducible first | apply Q9.l0b_ap | apply Ap.iter | exact Ap.refl _ | intro
noncomputable def Q9.fc (fu : Nat) (a0_0 : Int) (a0_1 : List Bs) (a0_2 : List Q0) (a0_3 : List Q1) : Option Bool :=
 jn (
 if a0_0 < 1 then
 some (.inl true)
 else
 some (.inl (decide (24 < a0_0)))) (fun (x454 : Bool) =>
 jn (
 if x454 = true then
 some (.inl true)
 else
 some (.inl (decide (8 < (a0_1.length : Int))))) (fun (x659 : Bool) =>
 jn (
 if x659 = true then
 some (.inl true)
 else
 some (.inl (decide (8 < (a0_3.length : Int))))) (fun (x864 : Bool) =>
 jn (
 if x864 = true then
 some (.inl true)
 else
 some (.inl (decide (200 < (a0_2.length : Int))))) (fun (x1069 : Bool) =>
 if x1069 = true then
 some false
 else
 jn (Q9.l0c fu a0_0 a0_1 a0_2 a0_3 0 0) (fun (x1880 : Int) =>
 jn (Q9.l1c fu a0_0 a0_1 a0_2 a0_3 0) (fun (_ : Unit) =>
 (Q68.fc fu a0_1).bind fun t2705 =>
 jn (
 if t2705 = true then
 some (.inl true)
 else
 if (0 : Int) ≤ (a0_1.length : Int) then
 some (.inl (!(decide (x1880 = IntKind.u8.wrap ((Bw.shl .u8 1 (a0_1.length : Int)) - 1)))))
 else none) (fun (x2907 : Bool) =>
 if x2907 = true then
 some false
 else
 (Q28.fc fu a0_2).bind fun t2913 =>
 jn (
 if t2913 = true then
 (Q29.fc fu a0_1).bind fun t3329 =>
 some (.inl t3329)
 else
 some (.inl false)) (fun (x3115 : Bool) =>
 jn (
 if x3115 = true then
 (Q27.fc fu a0_3).bind fun t3326 =>
 some (.inl t3326)
 else
 some (.inl false)) (fun (x3320 : Bool) =>
 some x3320)))))))))
theorem Q9.f_ap (fu : Nat) (a0_0 : Int) (a0_1 : List Bs) (a0_2 : List Q0) (a0_3 : List Q1) : Ap (Q9.fc fu a0_0 a0_1 a0_2 a0_3) (Q9.f a0_0 a0_1 a0_2 a0_3) := by
 unfold Q9.fc Q9.f
 repeat' with_reducible first | apply Q9.l0_ap | apply Q9.l1_ap | apply Q68.f_ap | apply Q28.f_ap | apply Q29.f_ap | apply Q27.f_ap | exact Ap.none | apply Ap.jn | apply Ap.ite | apply Ap.bind | exact Ap.refl _ | intro
noncomputable def Q59.fc (fu : Nat) (a0_0 a0_1 a0_2 a0_3 a1 : Int) : Option (Int × Int × Int × Int) :=
 jn (
 if 0 ≤ a1 then
 some (.inl (decide (a1 < 256)))
 else
 some (.inl false)) (fun (x467 : Bool) =>
 if x467 = true then
 if (0 : Int) ≤ (Bw.shr .i64 a1 6) ∧ (Bw.shr .i64 a1 6) < (4 : Int) then
 if (Bw.shr .i64 a1 6) = 0 then
 if (0 : Int) ≤ IntKind.u64.wrap (band .i64 a1 63) then
 some (bor .u64 a0_0 (Bw.shl .u64 1 (IntKind.u64.wrap (band .i64 a1 63))), a0_1, a0_2, a0_3)
 else none
 else
 if (Bw.shr .i64 a1 6) = 1 then
 if (0 : Int) ≤ IntKind.u64.wrap (band .i64 a1 63) then
 some (a0_0, bor .u64 a0_1 (Bw.shl .u64 1 (IntKind.u64.wrap (band .i64 a1 63))), a0_2, a0_3)
 else none
 else
 if (Bw.shr .i64 a1 6) = 2 then
 if (0 : Int) ≤ IntKind.u64.wrap (band .i64 a1 63) then
 some (a0_0, a0_1, bor .u64 a0_2 (Bw.shl .u64 1 (IntKind.u64.wrap (band .i64 a1 63))), a0_3)
 else none
 else
 if (0 : Int) ≤ IntKind.u64.wrap (band .i64 a1 63) then
 some (a0_0, a0_1, a0_2, bor .u64 a0_3 (Bw.shl .u64 1 (IntKind.u64.wrap (band .i64 a1 63))))
 else none
 else none
 else
 some (a0_0, a0_1, a0_2, a0_3))
theorem Q59.f_ap (fu : Nat) (a0_0 a0_1 a0_2 a0_3 a1 : Int) : Ap (Q59.fc fu a0_0 a0_1 a0_2 a0_3 a1) (Q59.f a0_0 a0_1 a0_2 a0_3 a1) := by
 unfold Q59.fc Q59.f
 repeat' with_reducible first | exact Ap.none | apply Ap.jn | apply Ap.ite | exact Ap.refl _ | intro
noncomputable def Q32.l0bc (fu : Nat) (a0 : List Int) (x872 x873 x874 x875 x876 : Int) : Option ((Int × Int × Int × Int × Int) ⊕ ((Int × Int × Int × Int) ⊕ (Int × Int × Int × Int))) :=
 if x876 < (a0.length : Int) then
 if (0 : Int) ≤ x876 ∧ x876 < (a0.length : Int) then
 (Q59.fc fu x872 x873 x874 x875 (gt a0 x876)).bind fun t1094 =>
 nx (t1094.1, t1094.2.1, t1094.2.2.1, t1094.2.2.2, IntKind.i64.wrap (x876 + 1))
 else none
 else
 dn (.inl (x872, x873, x874, x875))
theorem Q32.l0b_ap (fu : Nat) (a0 : List Int) (x872 x873 x874 x875 x876 : Int) : Ap (Q32.l0bc fu a0 x872 x873 x874 x875 x876) (Q32.l0b a0 x872 x873 x874 x875 x876) := by
 unfold Q32.l0bc Q32.l0b
 repeat' with_reducible first | apply Q59.f_ap | exact Ap.none | apply Ap.ite | apply Ap.bind | exact Ap.refl _ | intro
noncomputable def Q32.l0c (fu : Nat) (a0 : List Int) (x872 x873 x874 x875 x876 : Int) : Option ((Int × Int × Int × Int) ⊕ (Int × Int × Int × Int)) := iterC fu (fun t_ : Int × Int × Int × Int × Int => Q32.l0bc fu a0 t_.1 t_.2.1 t_.2.2.1 t_.2.2.2.1 t_.2.2.2.2) (x872, x873, x874, x875, x876)
theorem Q32.l0_ap (fu : Nat) (a0 : List Int) (x872 x873 x874 x875 x876 : Int) : Ap (Q32.l0c fu a0 x872 x873 x874 x875 x876) (Q32.l0 a0 x872 x873 x874 x875 x876) := by
 unfold Q32.l0c Q32.l0
 repeat' with_reducible first | apply Q32.l0b_ap | apply Ap.iter | exact Ap.refl _ | intro
noncomputable def Q32.fc (fu : Nat) (a0 : List Int) : Option (Int × Int × Int × Int) :=
 jn (Q32.l0c fu a0 0 0 0 0 0) (fun (s_ : Int × Int × Int × Int) =>
 some (s_.1, s_.2.1, s_.2.2.1, s_.2.2.2))
theorem Q32.f_ap (fu : Nat) (a0 : List Int) : Ap (Q32.fc fu a0) (Q32.f a0) := by
 unfold Q32.fc Q32.f
 repeat' with_reducible first | apply Q32.l0_ap | apply Ap.jn | exact Ap.refl _ | intro
noncomputable def Q8.l2bc (fu : Nat) (a0_1 : List Bs) (a0_2 : List Q0) (x1680 : Int) (x2502 : List (Q7 × Q5)) (x2503 : Int) : Option (((List (Q7 × Q5)) × Int) ⊕ (((List (Q7 × Q5))) ⊕ (((List (Q7 × Q5)) × Int) ⊕ (((List (Q7 × Q5))) ⊕ ((Option Q46)))))) :=
 if x2503 < (([(gt a0_1 ((gt a0_2 x1680).Action)), ([45] : Bs)] : List Bs).length : Int) then
 if (0 : Int) ≤ x2503 ∧ x2503 < (([(gt a0_1 ((gt a0_2 x1680).Action)), ([45] : Bs)] : List Bs).length : Int) then
 (Q59.fc fu (((mget x2502 (⟨(gt a0_2 x1680).From, gt ([(gt a0_1 ((gt a0_2 x1680).Action)), ([45] : Bs)] : List Bs) x2503⟩ : Q7)).getD (⟨(0 : Int), (0 : Int), (0 : Int), (0 : Int)⟩ : Q5)).c0) (((mget x2502 (⟨(gt a0_2 x1680).From, gt ([(gt a0_1 ((gt a0_2 x1680).Action)), ([45] : Bs)] : List Bs) x2503⟩ : Q7)).getD (⟨(0 : Int), (0 : Int), (0 : Int), (0 : Int)⟩ : Q5)).c1) (((mget x2502 (⟨(gt a0_2 x1680).From, gt ([(gt a0_1 ((gt a0_2 x1680).Action)), ([45] : Bs)] : List Bs) x2503⟩ : Q7)).getD (⟨(0 : Int), (0 : Int), (0 : Int), (0 : Int)⟩ : Q5)).c2) (((mget x2502 (⟨(gt a0_2 x1680).From, gt ([(gt a0_1 ((gt a0_2 x1680).Action)), ([45] : Bs)] : List Bs) x2503⟩ : Q7)).getD (⟨(0 : Int), (0 : Int), (0 : Int), (0 : Int)⟩ : Q5)).c3) ((gt a0_2 x1680).To)).bind fun t2721 =>
 nx ((mset x2502 (⟨(gt a0_2 x1680).From, gt ([(gt a0_1 ((gt a0_2 x1680).Action)), ([45] : Bs)] : List Bs) x2503⟩ : Q7) (⟨t2721.1, t2721.2.1, t2721.2.2.1, t2721.2.2.2⟩ : Q5)), IntKind.i64.wrap (x2503 + 1))
 else none
 else
 dn (.inl x2502)
theorem Q8.l2b_ap (fu : Nat) (a0_1 : List Bs) (a0_2 : List Q0) (x1680 : Int) (x2502 : List (Q7 × Q5)) (x2503 : Int) : Ap (Q8.l2bc fu a0_1 a0_2 x1680 x2502 x2503) (Q8.l2b a0_1 a0_2 x1680 x2502 x2503) := by
 unfold Q8.l2bc Q8.l2b
 repeat' with_reducible first | apply Q59.f_ap | exact Ap.none | apply Ap.ite | apply Ap.bind | exact Ap.refl _ | intro
noncomputable def Q8.l2c (fu : Nat) (a0_1 : List Bs) (a0_2 : List Q0) (x1680 : Int) (x2502 : List (Q7 × Q5)) (x2503 : Int) : Option (((List (Q7 × Q5))) ⊕ (((List (Q7 × Q5)) × Int) ⊕ (((List (Q7 × Q5))) ⊕ ((Option Q46))))) := iterC fu (fun t_ : (List (Q7 × Q5)) × Int => Q8.l2bc fu a0_1 a0_2 x1680 t_.1 t_.2) (x2502, x2503)
theorem Q8.l2_ap (fu : Nat) (a0_1 : List Bs) (a0_2 : List Q0) (x1680 : Int) (x2502 : List (Q7 × Q5)) (x2503 : Int) : Ap (Q8.l2c fu a0_1 a0_2 x1680 x2502 x2503) (Q8.l2 a0_1 a0_2 x1680 x2502 x2503) := by
 unfold Q8.l2c Q8.l2
 repeat' with_reducible first | apply Q8.l2b_ap | apply Ap.iter | exact Ap.refl _ | intro
noncomputable def Q8.l1bc (fu : Nat) (a0_1 : List Bs) (a0_2 : List Q0) (x1679 : List (Q7 × Q5)) (x1680 : Int) : Option (((List (Q7 × Q5)) × Int) ⊕ (((List (Q7 × Q5))) ⊕ ((Option Q46)))) :=
 if x1680 < (a0_2.length : Int) then
 if (0 : Int) ≤ x1680 ∧ x1680 < (a0_2.length : Int) then
 if (0 : Int) ≤ (gt a0_2 x1680).Action ∧ (gt a0_2 x1680).Action < (a0_1.length : Int) then
 jn (Q8.l2c fu a0_1 a0_2 x1680 x1679 0) (fun (x2704 : List (Q7 × Q5)) =>
 nx (x2704, IntKind.i64.wrap (x1680 + 1)))
 else none
 else none
 else
 dn (.inl x1679)
theorem Q8.l1b_ap (fu : Nat) (a0_1 : List Bs) (a0_2 : List Q0) (x1679 : List (Q7 × Q5)) (x1680 : Int) : Ap (Q8.l1bc fu a0_1 a0_2 x1679 x1680) (Q8.l1b a0_1 a0_2 x1679 x1680) := by
 unfold Q8.l1bc Q8.l1b
 repeat' with_reducible first | apply Q8.l2_ap | exact Ap.none | apply Ap.jn | apply Ap.ite | exact Ap.refl _ | intro
noncomputable def Q8.l1c (fu : Nat) (a0_1 : List Bs) (a0_2 : List Q0) (x1679 : List (Q7 × Q5)) (x1680 : Int) : Option (((List (Q7 × Q5))) ⊕ ((Option Q46))) := iterC fu (fun t_ : (List (Q7 × Q5)) × Int => Q8.l1bc fu a0_1 a0_2 t_.1 t_.2) (x1679, x1680)
theorem Q8.l1_ap (fu : Nat) (a0_1 : List Bs) (a0_2 : List Q0) (x1679 : List (Q7 × Q5)) (x1680 : Int) : Ap (Q8.l1c fu a0_1 a0_2 x1679 x1680) (Q8.l1 a0_1 a0_2 x1679 x1680) := by
 unfold Q8.l1c Q8.l1
 repeat' with_reducible first | apply Q8.l1b_ap | apply Ap.iter | exact Ap.refl _ | intro
noncomputable def Q8.l0bc (fu : Nat) (a0_3 : List Q1) (x863 : List (Bs × Q5)) (x864 : Int) : Option (((List (Bs × Q5)) × Int) ⊕ (((List (Bs × Q5))) ⊕ ((Option Q46)))) :=
 if x864 < (a0_3.length : Int) then
 if (0 : Int) ≤ x864 ∧ x864 < (a0_3.length : Int) then
 (Q32.fc fu ((gt a0_3 x864).States)).bind fun t2735 =>
 nx ((mset x863 ((gt a0_3 x864).Name) (⟨t2735.1, t2735.2.1, t2735.2.2.1, t2735.2.2.2⟩ : Q5)), IntKind.i64.wrap (x864 + 1))
 else none
 else
 dn (.inl x863)
theorem Q8.l0b_ap (fu : Nat) (a0_3 : List Q1) (x863 : List (Bs × Q5)) (x864 : Int) : Ap (Q8.l0bc fu a0_3 x863 x864) (Q8.l0b a0_3 x863 x864) := by
 unfold Q8.l0bc Q8.l0b
 repeat' with_reducible first | apply Q32.f_ap | exact Ap.none | apply Ap.ite | apply Ap.bind | exact Ap.refl _ | intro
noncomputable def Q8.l0c (fu : Nat) (a0_3 : List Q1) (x863 : List (Bs × Q5)) (x864 : Int) : Option (((List (Bs × Q5))) ⊕ ((Option Q46))) := iterC fu (fun t_ : (List (Bs × Q5)) × Int => Q8.l0bc fu a0_3 t_.1 t_.2) (x863, x864)
theorem Q8.l0_ap (fu : Nat) (a0_3 : List Q1) (x863 : List (Bs × Q5)) (x864 : Int) : Ap (Q8.l0c fu a0_3 x863 x864) (Q8.l0 a0_3 x863 x864) := by
 unfold Q8.l0c Q8.l0
 repeat' with_reducible first | apply Q8.l0b_ap | apply Ap.iter | exact Ap.refl _ | intro
noncomputable def Q8.fc (fu : Nat) (a0_0 : Int) (a0_1 : List Bs) (a0_2 : List Q0) (a0_3 : List Q1) : Option (Option Q46) :=
 (Q9.fc fu a0_0 a0_1 a0_2 a0_3).bind fun t255 =>
 if t255 = true then
 jn (Q8.l0c fu a0_3 ([] : List (Bs × Q5)) 0) (fun (x1065 : List (Bs × Q5)) =>
 jn (Q8.l1c fu a0_1 a0_2 ([] : List (Q7 × Q5)) 0) (fun (x1881 : List (Q7 × Q5)) =>
 some (some (⟨a0_0, x1065, x1881⟩ : Q46))))
 else
 some none
theorem Q8.f_ap (fu : Nat) (a0_0 : Int) (a0_1 : List Bs) (a0_2 : List Q0) (a0_3 : List Q1) : Ap (Q8.fc fu a0_0 a0_1 a0_2 a0_3) (Q8.f a0_0 a0_1 a0_2 a0_3) := by
 unfold Q8.fc Q8.f
 repeat' with_reducible first | apply Q9.f_ap | apply Q8.l0_ap | apply Q8.l1_ap | exact Ap.none | apply Ap.jn | apply Ap.ite | apply Ap.bind | exact Ap.refl _ | intro
noncomputable def Q76.fc (fu : Nat) (a0 : Bs) (a1 : Int) : Option Int :=
 some (Lib.indexByte a0 a1.toNat.toUInt8)
theorem Q76.f_ap (fu : Nat) (a0 : Bs) (a1 : Int) : Ap (Q76.fc fu a0 a1) (Q76.f a0 a1) := by
 unfold Q76.fc Q76.f
 repeat' with_reducible first | exact Ap.refl _
noncomputable def Q78.fc (fu : Nat) (a0 : Bs) (a1 : Int) : Option Int :=
 (Q76.fc fu a0 a1).bind fun t252 =>
 some t252
theorem Q78.f_ap (fu : Nat) (a0 : Bs) (a1 : Int) : Ap (Q78.fc fu a0 a1) (Q78.f a0 a1) := by
 unfold Q78.fc Q78.f
 repeat' with_reducible first | apply Q76.f_ap | apply Ap.bind | exact Ap.refl _ | intro
noncomputable def Q84.fc (fu : Nat) (a0 : Int) : Option Int :=
 if a0 = 10 then
 some 1
 else
 jn (
 if 97 ≤ a0 then
 some (.inl (decide (a0 ≤ 122)))
 else
 some (.inl false)) (fun (x453 : Bool) =>
 if x453 = true then
 some 2
 else
 jn (
 if 65 ≤ a0 then
 some (.inl (decide (a0 ≤ 90)))
 else
 some (.inl false)) (fun (x659 : Bool) =>
 if x659 = true then
 some 3
 else
 jn (
 if 48 ≤ a0 then
 some (.inl (decide (a0 ≤ 57)))
 else
 some (.inl false)) (fun (x865 : Bool) =>
 if x865 = true then
 some 4
 else
 jn (
 if 32 < a0 then
 some (.inl (decide (a0 < 127)))
 else
 some (.inl false)) (fun (x1071 : Bool) =>
 jn (
 if x1071 = true then
 some (.inl (!(decide (a0 = 95))))
 else
 some (.inl false)) (fun (x1276 : Bool) =>
 if x1276 = true then
 some 5
 else
 some 0)))))
theorem Q84.f_ap (fu : Nat) (a0 : Int) : Ap (Q84.fc fu a0) (Q84.f a0) := by
 unfold Q84.fc Q84.f
 repeat' with_reducible first | apply Ap.jn | apply Ap.ite | exact Ap.refl _ | intro
noncomputable def Q13.l0bc (fu : Nat) (a1 : Bs) (x1059 : Int) : Option ((Int) ⊕ ((Int) ⊕ ((Int) ⊕ (Int)))) :=
 jn (
 if x1059 < (a1.length : Int) then
 if (0 : Int) ≤ x1059 ∧ x1059 < (a1.length : Int) then
 some (.inl (decide (48 ≤ bat a1 x1059)))
 else none
 else
 some (.inl false)) (fun (x1472 : Bool) =>
 jn (
 if x1472 = true then
 if (0 : Int) ≤ x1059 ∧ x1059 < (a1.length : Int) then
 some (.inl (decide (bat a1 x1059 ≤ 57)))
 else none
 else
 some (.inl false)) (fun (x1677 : Bool) =>
 if x1677 = true then
 nx (IntKind.i64.wrap (x1059 + 1))
 else
 dn (.inl x1059)))
theorem Q13.l0b_ap (fu : Nat) (a1 : Bs) (x1059 : Int) : Ap (Q13.l0bc fu a1 x1059) (Q13.l0b a1 x1059) := by
 unfold Q13.l0bc Q13.l0b
 repeat' with_reducible first | exact Ap.none | apply Ap.jn | apply Ap.ite | exact Ap.refl _ | intro
noncomputable def Q13.l0c (fu : Nat) (a1 : Bs) (x1059 : Int) : Option ((Int) ⊕ ((Int) ⊕ (Int))) := iterC fu (fun t_ : Int => Q13.l0bc fu a1 t_) x1059
theorem Q13.l0_ap (fu : Nat) (a1 : Bs) (x1059 : Int) : Ap (Q13.l0c fu a1 x1059) (Q13.l0 a1 x1059) := by
 unfold Q13.l0c Q13.l0
 repeat' with_reducible first | apply Q13.l0b_ap | apply Ap.iter | exact Ap.refl _ | intro
noncomputable def Q13.l1bc (fu : Nat) (a1 : Bs) (x2494 : Int) : Option ((Int) ⊕ ((Int) ⊕ ((Int) ⊕ (Int)))) :=
 jn (
 if x2494 < (a1.length : Int) then
 if (0 : Int) ≤ x2494 ∧ x2494 < (a1.length : Int) then
 jn (
 if bat a1 x2494 = 95 then
 some (.inl (true, true))
 else
 jn (
 if 97 ≤ bat a1 x2494 then
 some (.inl (true, decide (bat a1 x2494 ≤ 122)))
 else
 some (.inl (false, false))) (fun (s_ : Bool × Bool) =>
 some (.inl (false, s_.2)))) (fun (s_ : Bool × Bool) =>
 jn (
 if s_.2 = true then
 some (.inl (true, true))
 else
 jn (
 if 65 ≤ bat a1 x2494 then
 some (.inl (true, decide (bat a1 x2494 ≤ 90)))
 else
 some (.inl (false, false))) (fun (s_ : Bool × Bool) =>
 some (.inl (false, s_.2)))) (fun (s_ : Bool × Bool) =>
 jn (
 if s_.2 = true then
 some (.inl (true, true))
 else
 jn (
 if 48 ≤ bat a1 x2494 then
 some (.inl (true, decide (bat a1 x2494 ≤ 57)))
 else
 some (.inl (false, false))) (fun (s_ : Bool × Bool) =>
 some (.inl (false, s_.2)))) (fun (s_ : Bool × Bool) =>
 some (.inl s_.2))))
 else none
 else
 some (.inl false)) (fun (x2907 : Bool) =>
 if x2907 = true then
 nx (IntKind.i64.wrap (x2494 + 1))
 else
 dn (.inl x2494))
theorem Q13.l1b_ap (fu : Nat) (a1 : Bs) (x2494 : Int) : Ap (Q13.l1bc fu a1 x2494) (Q13.l1b a1 x2494) := by
 unfold Q13.l1bc Q13.l1b
 repeat' with_reducible first | exact Ap.none | apply Ap.jn | apply Ap.ite | exact Ap.refl _ | intro
noncomputable def Q13.l1c (fu : Nat) (a1 : Bs) (x2494 : Int) : Option ((Int) ⊕ ((Int) ⊕ (Int))) := iterC fu (fun t_ : Int => Q13.l1bc fu a1 t_) x2494
theorem Q13.l1_ap (fu : Nat) (a1 : Bs) (x2494 : Int) : Ap (Q13.l1c fu a1 x2494) (Q13.l1 a1 x2494) := by
 unfold Q13.l1c Q13.l1
 repeat' with_reducible first | apply Q13.l1b_ap | apply Ap.iter | exact Ap.refl _ | intro
noncomputable def Q13.fc (fu : Nat) (a0 : Int) (a1 : Bs) : Option Int :=
 jn (
 if a0 = 4 then
 jn (Q13.l0c fu a1 1) (fun (x1260 : Int) =>
 some (.inl x1260))
 else
 jn (
 if a0 = 2 then
 some (.inl (decide (a0 = 2)))
 else
 some (.inl (decide (a0 = 3)))) (fun (x1891 : Bool) =>
 if x1891 = true then
 jn (Q13.l1c fu a1 1) (fun (x2695 : Int) =>
 some (.inl x2695))
 else
 some (.inl 1))) (fun (x456 : Int) =>
 some x456)
theorem Q13.f_ap (fu : Nat) (a0 : Int) (a1 : Bs) : Ap (Q13.fc fu a0 a1) (Q13.f a0 a1) := by
 unfold Q13.fc Q13.f
 repeat' with_reducible first | apply Q13.l0_ap | apply Q13.l1_ap | apply Ap.jn | apply Ap.ite | exact Ap.refl _ | intro
noncomputable def Q31.l0bc (fu : Nat) (a0 : Bs) (x1061 x1062 : Int) : Option ((Int × Int) ⊕ ((Int) ⊕ (Bool × Int))) :=
 if x1062 < (a0.length : Int) then
 if (0 : Int) ≤ x1062 ∧ x1062 < (a0.length : Int) then
 nx (IntKind.i64.wrap (IntKind.i64.wrap (10 * x1061) + (IntKind.i64.wrap (IntKind.u8.wrap (bat a0 x1062 - 48)))), IntKind.i64.wrap (x1062 + 1))
 else none
 else
 dn (.inl x1061)
theorem Q31.l0b_ap (fu : Nat) (a0 : Bs) (x1061 x1062 : Int) : Ap (Q31.l0bc fu a0 x1061 x1062) (Q31.l0b a0 x1061 x1062) := by
 unfold Q31.l0bc Q31.l0b
 repeat' with_reducible first | exact Ap.none | apply Ap.ite | exact Ap.refl _
noncomputable def Q31.l0c (fu : Nat) (a0 : Bs) (x1061 x1062 : Int) : Option ((Int) ⊕ (Bool × Int)) := iterC fu (fun t_ : Int × Int => Q31.l0bc fu a0 t_.1 t_.2) (x1061, x1062)
theorem Q31.l0_ap (fu : Nat) (a0 : Bs) (x1061 x1062 : Int) : Ap (Q31.l0c fu a0 x1061 x1062) (Q31.l0 a0 x1061 x1062) := by
 unfold Q31.l0c Q31.l0
 repeat' with_reducible first | apply Q31.l0b_ap | apply Ap.iter | exact Ap.refl _ | intro
noncomputable def Q31.fc (fu : Nat) (a0 : Bs) : Option (Bool × Int) :=
 jn (
 if 4 < (a0.length : Int) then
 some (.inl true)
 else
 jn (
 if 1 < (a0.length : Int) then
 if (0 : Int) ≤ 0 ∧ 0 < (a0.length : Int) then
 some (.inl (decide (bat a0 0 = 48)))
 else none
 else
 some (.inl false)) (fun (x1478 : Bool) =>
 some (.inl x1478))) (fun (x453 : Bool) =>
 if x453 = true then
 some (false, 0)
 else
 jn (Q31.l0c fu a0 0 0) (fun (x1263 : Int) =>
 some (decide (x1263 ≤ 9999), x1263)))
theorem Q31.f_ap (fu : Nat) (a0 : Bs) : Ap (Q31.fc fu a0) (Q31.f a0) := by
 unfold Q31.fc Q31.f
 repeat' with_reducible first | apply Q31.l0_ap | exact Ap.none | apply Ap.jn | apply Ap.ite | exact Ap.refl _ | intro
noncomputable def Q81.fc (fu : Nat) (a0 : Bs) (a1 : Int) : Option (Int × Int × Int × Bs × Int) :=
 if (0 : Int) ≤ a1 ∧ a1 < (a0.length : Int) then
 (Q84.fc fu (bat a0 a1)).bind fun t266 =>
 if (0 : Int) ≤ a1 ∧ a1 ≤ (a0.length : Int) then
 (Q13.fc fu t266 (a0.drop a1.toNat)).bind fun t272 =>
 if (0 : Int) ≤ a1 ∧ a1 ≤ IntKind.i64.wrap (a1 + t272) ∧ IntKind.i64.wrap (a1 + t272) ≤ (a0.length : Int) then
 jn (
 if t266 = 0 then
 up (some (3, t266, a1, (bsl a0 a1 (IntKind.i64.wrap (a1 + t272))), 0))
 else
 jn (
 if t266 = 2 then
 some (.inl (decide (t266 = 2)))
 else
 some (.inl (decide (t266 = 3)))) (fun (x685 : Bool) =>
 if x685 = true then
 if 8 < ((bsl a0 a1 (IntKind.i64.wrap (a1 + t272))).length : Int) then
 up (some (5, t266, a1, (bsl a0 a1 (IntKind.i64.wrap (a1 + t272))), 0))
 else
 some (.inl 0)
 else
 if t266 = 4 then
 (Q31.fc fu (bsl a0 a1 (IntKind.i64.wrap (a1 + t272)))).bind fun t689 =>
 if t689.1 = true then
 some (.inl t689.2)
 else
 up (some (4, t266, a1, (bsl a0 a1 (IntKind.i64.wrap (a1 + t272))), 0))
 else
 some (.inl 0))) (fun (x479 : Int) =>
 some (0, t266, a1, (bsl a0 a1 (IntKind.i64.wrap (a1 + t272))), x479))
 else none
 else none
 else none
theorem Q81.f_ap (fu : Nat) (a0 : Bs) (a1 : Int) : Ap (Q81.fc fu a0 a1) (Q81.f a0 a1) := by
 unfold Q81.fc Q81.f
 repeat' with_reducible first | apply Q84.f_ap | apply Q13.f_ap | apply Q31.f_ap | exact Ap.none | apply Ap.jn | apply Ap.ite | apply Ap.up | apply Ap.bind | exact Ap.refl _ | intro
noncomputable def Q37.l0bc (fu : Nat) (a0 : Bs) (x867 : List Q3) (x872 : Int) : Option (((List Q3) × Int) ⊕ (((List Q3)) ⊕ ((Option Q2) × (List Q3)))) :=
 if x872 < (a0.length : Int) then
 if (0 : Int) ≤ x872 ∧ x872 < (a0.length : Int) then
 jn (
 if bat a0 x872 = 32 then
 some (.inl true)
 else
 some (.inl (decide (bat a0 x872 = 9)))) (fun (x1297 : Bool) =>
 if x1297 = true then
 nx (x867, IntKind.i64.wrap (x872 + 1))
 else
 if bat a0 x872 = 35 then
 if (0 : Int) ≤ x872 ∧ x872 ≤ (a0.length : Int) then
 (Q78.fc fu (a0.drop x872.toNat) 10).bind fun t1305 =>
 jn (
 if t1305 < 0 then
 some (.inl (IntKind.i64.wrap ((a0.length : Int) - x872)))
 else
 some (.inl t1305)) (fun (x1511 : Int) =>
 nx (x867, IntKind.i64.wrap (x872 + x1511)))
 else none
 else
 (Q81.fc fu a0 x872).bind fun t1513 =>
 if t1513.1 = 0 then
 if (x867.length + ([(⟨t1513.2.1, t1513.2.2.1, t1513.2.2.2.1, t1513.2.2.2.2⟩ : Q3)] : List Q3).length) * 40 ≤ 140737488355328 then
 nx ((x867 ++ ([(⟨t1513.2.1, t1513.2.2.1, t1513.2.2.2.1, t1513.2.2.2.2⟩ : Q3)] : List Q3)), IntKind.i64.wrap (x872 + (t1513.2.2.2.1.length : Int)))
 else none
 else
 upL (some ((some (⟨x872, t1513.1⟩ : Q2)), ([] : List Q3))))
 else none
 else
 dn (.inl x867)
theorem Q37.l0b_ap (fu : Nat) (a0 : Bs) (x867 : List Q3) (x872 : Int) : Ap (Q37.l0bc fu a0 x867 x872) (Q37.l0b a0 x867 x872) := by
 unfold Q37.l0bc Q37.l0b
 repeat' with_reducible first | apply Q78.f_ap | apply Q81.f_ap | exact Ap.none | apply Ap.jn | apply Ap.ite | apply Ap.upL | apply Ap.bind | exact Ap.refl _ | intro
noncomputable def Q37.l0c (fu : Nat) (a0 : Bs) (x867 : List Q3) (x872 : Int) : Option (((List Q3)) ⊕ ((Option Q2) × (List Q3))) := iterC fu (fun t_ : (List Q3) × Int => Q37.l0bc fu a0 t_.1 t_.2) (x867, x872)
theorem Q37.l0_ap (fu : Nat) (a0 : Bs) (x867 : List Q3) (x872 : Int) : Ap (Q37.l0c fu a0 x867 x872) (Q37.l0 a0 x867 x872) := by
 unfold Q37.l0c Q37.l0
 repeat' with_reducible first | apply Q37.l0b_ap | apply Ap.iter | exact Ap.refl _ | intro
noncomputable def Q37.fc (fu : Nat) (a0 : Bs) : Option ((Option Q2) × (List Q3)) :=
 if 262144 < (a0.length : Int) then
 some ((some (⟨262144, 2⟩ : Q2)), ([] : List Q3))
 else
 jn (Q37.l0c fu a0 ([] : List Q3) 0) (fun (x1073 : List Q3) =>
 if (x1073.length + ([(⟨0, (a0.length : Int), ([] : Bs), 0⟩ : Q3)] : List Q3).length) * 40 ≤ 140737488355328 then
 some (none, (x1073 ++ ([(⟨0, (a0.length : Int), ([] : Bs), 0⟩ : Q3)] : List Q3)))
 else none)
theorem Q37.f_ap (fu : Nat) (a0 : Bs) : Ap (Q37.fc fu a0) (Q37.f a0) := by
 unfold Q37.fc Q37.f
 repeat' with_reducible first | apply Q37.l0_ap | exact Ap.none | apply Ap.jn | apply Ap.ite | exact Ap.refl _ | intro
noncomputable def Q22.l0bc (fu : Nat) (x868 : List Q3) : Option (((List Q3)) ⊕ (((List Q3)) ⊕ ((List Q3)))) :=
 if (0 : Int) ≤ 0 ∧ 0 < (x868.length : Int) then
 if (gt x868 0).Kind = 1 then
 if (0 : Int) ≤ 1 ∧ 1 ≤ (x868.length : Int) then
 nx (x868.drop (1 : Int).toNat)
 else none
 else
 dn (.inl x868)
 else none
theorem Q22.l0b_ap (fu : Nat) (x868 : List Q3) : Ap (Q22.l0bc fu x868) (Q22.l0b x868) := by
 unfold Q22.l0bc Q22.l0b
 repeat' with_reducible first | exact Ap.none | apply Ap.ite | exact Ap.refl _
noncomputable def Q22.l0c (fu : Nat) (x868 : List Q3) : Option (((List Q3)) ⊕ ((List Q3))) := iterC fu (fun t_ : (List Q3) => Q22.l0bc fu  t_) x868
theorem Q22.l0_ap (fu : Nat) (x868 : List Q3) : Ap (Q22.l0c fu x868) (Q22.l0 x868) := by
 unfold Q22.l0c Q22.l0
 repeat' with_reducible first | apply Q22.l0b_ap | apply Ap.iter | exact Ap.refl _ | intro
noncomputable def Q22.fc (fu : Nat) (a0_0 : List Q3) (a0_1 : Option Q2) (a0_2 : Int) (a0_3 : List Bs) (a0_4 : List Q0) (a0_5 : List Q1) (a0_6 : List Q4) (a0_7 : List (Bs × Bool)) : Option (List Q3) :=
 jn (Q22.l0c fu  a0_0) (fun (x1075 : List Q3) =>
 some x1075)
theorem Q22.f_ap (fu : Nat) (a0_0 : List Q3) (a0_1 : Option Q2) (a0_2 : Int) (a0_3 : List Bs) (a0_4 : List Q0) (a0_5 : List Q1) (a0_6 : List Q4) (a0_7 : List (Bs × Bool)) : Ap (Q22.fc fu a0_0 a0_1 a0_2 a0_3 a0_4 a0_5 a0_6 a0_7) (Q22.f a0_0 a0_1 a0_2 a0_3 a0_4 a0_5 a0_6 a0_7) := by
 unfold Q22.fc Q22.f
 repeat' with_reducible first | apply Q22.l0_ap | apply Ap.jn | exact Ap.refl _ | intro
noncomputable def Q11.fc (fu : Nat) (a0_0 : List Q3) (a0_1 : Option Q2) (a0_2 : Int) (a0_3 : List Bs) (a0_4 : List Q0) (a0_5 : List Q1) (a0_6 : List Q4) (a0_7 : List (Bs × Bool)) (a1_0 : Int) (a1_1 : Int) (a1_2 : Bs) (a1_3 : Int) (a2 : Int) : Option (Option Q2) :=
 if a0_1.isNone = true then
 some (some (⟨a1_1, a2⟩ : Q2))
 else
 some a0_1
theorem Q11.f_ap (fu : Nat) (a0_0 : List Q3) (a0_1 : Option Q2) (a0_2 : Int) (a0_3 : List Bs) (a0_4 : List Q0) (a0_5 : List Q1) (a0_6 : List Q4) (a0_7 : List (Bs × Bool)) (a1_0 : Int) (a1_1 : Int) (a1_2 : Bs) (a1_3 : Int) (a2 : Int) : Ap (Q11.fc fu a0_0 a0_1 a0_2 a0_3 a0_4 a0_5 a0_6 a0_7 a1_0 a1_1 a1_2 a1_3 a2) (Q11.f a0_0 a0_1 a0_2 a0_3 a0_4 a0_5 a0_6 a0_7 a1_0 a1_1 a1_2 a1_3 a2) := by
 unfold Q11.fc Q11.f
 repeat' with_reducible first | apply Ap.ite | exact Ap.refl _
noncomputable def Q40.fc (fu : Nat) (a0_0 : List Q3) (a0_1 : Option Q2) (a0_2 : Int) (a0_3 : List Bs) (a0_4 : List Q0) (a0_5 : List Q1) (a0_6 : List Q4) (a0_7 : List (Bs × Bool)) (a1 : Int) : Option ((Option Q2) × (List Q3) × Int × Int × Bs × Int) :=
 if a0_1.isNone = true then
 if (0 : Int) ≤ 0 ∧ 0 < (a0_0.length : Int) then
 jn (
 if (gt a0_0 0).Kind = a1 then
 if (0 : Int) ≤ 1 ∧ 1 ≤ (a0_0.length : Int) then
 up (some (a0_1, (a0_0.drop (1 : Int).toNat), (gt a0_0 0).Kind, (gt a0_0 0).At, (gt a0_0 0).Text, (gt a0_0 0).Number))
 else none
 else
 if (gt a0_0 0).Kind = 0 then
 (Q11.fc fu a0_0 a0_1 a0_2 a0_3 a0_4 a0_5 a0_6 a0_7 ((gt a0_0 0).Kind) ((gt a0_0 0).At) ((gt a0_0 0).Text) ((gt a0_0 0).Number) 6).bind fun t485 =>
 some (.inl t485)
 else
 (Q11.fc fu a0_0 a0_1 a0_2 a0_3 a0_4 a0_5 a0_6 a0_7 ((gt a0_0 0).Kind) ((gt a0_0 0).At) ((gt a0_0 0).Text) ((gt a0_0 0).Number) 7).bind fun t489 =>
 some (.inl t489)) (fun (x477 : Option Q2) =>
 some (x477, a0_0, 0, 0, ([] : Bs), 0))
 else none
 else
 some (a0_1, a0_0, 0, 0, ([] : Bs), 0)
theorem Q40.f_ap (fu : Nat) (a0_0 : List Q3) (a0_1 : Option Q2) (a0_2 : Int) (a0_3 : List Bs) (a0_4 : List Q0) (a0_5 : List Q1) (a0_6 : List Q4) (a0_7 : List (Bs × Bool)) (a1 : Int) : Ap (Q40.fc fu a0_0 a0_1 a0_2 a0_3 a0_4 a0_5 a0_6 a0_7 a1) (Q40.f a0_0 a0_1 a0_2 a0_3 a0_4 a0_5 a0_6 a0_7 a1) := by
 unfold Q40.fc Q40.f
 repeat' with_reducible first | apply Q11.f_ap | exact Ap.none | apply Ap.jn | apply Ap.ite | apply Ap.up | apply Ap.bind | exact Ap.refl _ | intro
noncomputable def Q60.fc (fu : Nat) (a0_0 : List Q3) (a0_1 : Option Q2) (a0_2 : Int) (a0_3 : List Bs) (a0_4 : List Q0) (a0_5 : List Q1) (a0_6 : List Q4) (a0_7 : List (Bs × Bool)) : Option Bool :=
 if (0 : Int) ≤ 0 ∧ 0 < (a0_0.length : Int) then
 jn (
 if (gt a0_0 0).Kind = 0 then
 some (.inl true)
 else
 some (.inl (decide ((gt a0_0 0).Kind = 1)))) (fun (x453 : Bool) =>
 some x453)
 else none
theorem Q60.f_ap (fu : Nat) (a0_0 : List Q3) (a0_1 : Option Q2) (a0_2 : Int) (a0_3 : List Bs) (a0_4 : List Q0) (a0_5 : List Q1) (a0_6 : List Q4) (a0_7 : List (Bs × Bool)) : Ap (Q60.fc fu a0_0 a0_1 a0_2 a0_3 a0_4 a0_5 a0_6 a0_7) (Q60.f a0_0 a0_1 a0_2 a0_3 a0_4 a0_5 a0_6 a0_7) := by
 unfold Q60.fc Q60.f
 repeat' with_reducible first | exact Ap.none | apply Ap.jn | apply Ap.ite | exact Ap.refl _ | intro
noncomputable def Q58.fc (fu : Nat) (a0_0 : List Q3) (a0_1 : Option Q2) (a0_2 : Int) (a0_3 : List Bs) (a0_4 : List Q0) (a0_5 : List Q1) (a0_6 : List Q4) (a0_7 : List (Bs × Bool)) : Option (Option Q2) :=
 (Q60.fc fu a0_0 a0_1 a0_2 a0_3 a0_4 a0_5 a0_6 a0_7).bind fun t253 =>
 if t253 = true then
 some a0_1
 else
 if (0 : Int) ≤ 0 ∧ 0 < (a0_0.length : Int) then
 (Q11.fc fu a0_0 a0_1 a0_2 a0_3 a0_4 a0_5 a0_6 a0_7 ((gt a0_0 0).Kind) ((gt a0_0 0).At) ((gt a0_0 0).Text) ((gt a0_0 0).Number) 7).bind fun t257 =>
 some t257
 else none
theorem Q58.f_ap (fu : Nat) (a0_0 : List Q3) (a0_1 : Option Q2) (a0_2 : Int) (a0_3 : List Bs) (a0_4 : List Q0) (a0_5 : List Q1) (a0_6 : List Q4) (a0_7 : List (Bs × Bool)) : Ap (Q58.fc fu a0_0 a0_1 a0_2 a0_3 a0_4 a0_5 a0_6 a0_7) (Q58.f a0_0 a0_1 a0_2 a0_3 a0_4 a0_5 a0_6 a0_7) := by
 unfold Q58.fc Q58.f
 repeat' with_reducible first | apply Q60.f_ap | apply Q11.f_ap | exact Ap.none | apply Ap.ite | apply Ap.bind | exact Ap.refl _ | intro
noncomputable def Q74.fc (fu : Nat) (a0_0 : List Q3) (a0_1 : Option Q2) (a0_2 : Int) (a0_3 : List Bs) (a0_4 : List Q0) (a0_5 : List Q1) (a0_6 : List Q4) (a0_7 : List (Bs × Bool)) : Option ((Option Q2) × (List Q3) × Int) :=
 (Q22.fc fu a0_0 a0_1 a0_2 a0_3 a0_4 a0_5 a0_6 a0_7).bind fun t271 =>
 (Q40.fc fu t271 a0_1 a0_2 a0_3 a0_4 a0_5 a0_6 a0_7 2).bind fun t279 =>
 jn (
 if t279.1.isNone = true then
 some (.inl (!(bseqC t279.2.2.2.2.1 ([115, 116, 97, 116, 101, 115] : Bs))))
 else
 some (.inl false)) (fun (x490 : Bool) =>
 jn (
 if x490 = true then
 (Q11.fc fu t279.2.1 t279.1 a0_2 a0_3 a0_4 a0_5 a0_6 a0_7 t279.2.2.1 t279.2.2.2.1 t279.2.2.2.2.1 t279.2.2.2.2.2 7).bind fun t1339 =>
 some (.inl t1339)
 else
 some (.inl t279.1)) (fun (x700 : Option Q2) =>
 (Q40.fc fu t279.2.1 x700 a0_2 a0_3 a0_4 a0_5 a0_6 a0_7 4).bind fun t701 =>
 jn (
 if t701.1.isNone = true then
 jn (
 if t701.2.2.2.2.2 < 1 then
 some (.inl true)
 else
 some (.inl (decide (24 < t701.2.2.2.2.2)))) (fun (x1332 : Bool) =>
 some (.inl x1332))
 else
 some (.inl false)) (fun (x912 : Bool) =>
 jn (
 if x912 = true then
 (Q11.fc fu t701.2.1 t701.1 t701.2.2.2.2.2 a0_3 a0_4 a0_5 a0_6 a0_7 t701.2.2.1 t701.2.2.2.1 t701.2.2.2.2.1 t701.2.2.2.2.2 8).bind fun t1127 =>
 some (.inl t1127)
 else
 some (.inl t701.1)) (fun (x1122 : Option Q2) =>
 (Q58.fc fu t701.2.1 x1122 t701.2.2.2.2.2 a0_3 a0_4 a0_5 a0_6 a0_7).bind fun t1123 =>
 some (t1123, t701.2.1, t701.2.2.2.2.2)))))
theorem Q74.f_ap (fu : Nat) (a0_0 : List Q3) (a0_1 : Option Q2) (a0_2 : Int) (a0_3 : List Bs) (a0_4 : List Q0) (a0_5 : List Q1) (a0_6 : List Q4) (a0_7 : List (Bs × Bool)) : Ap (Q74.fc fu a0_0 a0_1 a0_2 a0_3 a0_4 a0_5 a0_6 a0_7) (Q74.f a0_0 a0_1 a0_2 a0_3 a0_4 a0_5 a0_6 a0_7) := by
 unfold Q74.fc Q74.f
 rw [Q124]
 repeat' with_reducible first | apply Q22.f_ap | apply Q40.f_ap | apply Q11.f_ap | apply Q58.f_ap | apply Ap.jn | apply Ap.ite | apply Ap.bind | exact Ap.refl _ | intro
noncomputable def Q50.fc (fu : Nat) (a0_0 : List Q3) (a0_1 : Option Q2) (a0_2 : Int) (a0_3 : List Bs) (a0_4 : List Q0) (a0_5 : List Q1) (a0_6 : List Q4) (a0_7 : List (Bs × Bool)) : Option ((Option Q2) × (List Q3) × Int × Int × Int × Bs × Int) :=
 (Q40.fc fu a0_0 a0_1 a0_2 a0_3 a0_4 a0_5 a0_6 a0_7 4).bind fun t276 =>
 jn (
 if t276.1.isNone = true then
 some (.inl (decide (a0_2 ≤ t276.2.2.2.2.2)))
 else
 some (.inl false)) (fun (x487 : Bool) =>
 jn (
 if x487 = true then
 (Q11.fc fu t276.2.1 t276.1 a0_2 a0_3 a0_4 a0_5 a0_6 a0_7 t276.2.2.1 t276.2.2.2.1 t276.2.2.2.2.1 t276.2.2.2.2.2 8).bind fun t699 =>
 some (.inl t699)
 else
 some (.inl t276.1)) (fun (x697 : Option Q2) =>
 some (x697, t276.2.1, t276.2.2.2.2.2, t276.2.2.1, t276.2.2.2.1, t276.2.2.2.2.1, t276.2.2.2.2.2)))
theorem Q50.f_ap (fu : Nat) (a0_0 : List Q3) (a0_1 : Option Q2) (a0_2 : Int) (a0_3 : List Bs) (a0_4 : List Q0) (a0_5 : List Q1) (a0_6 : List Q4) (a0_7 : List (Bs × Bool)) : Ap (Q50.fc fu a0_0 a0_1 a0_2 a0_3 a0_4 a0_5 a0_6 a0_7) (Q50.f a0_0 a0_1 a0_2 a0_3 a0_4 a0_5 a0_6 a0_7) := by
 unfold Q50.fc Q50.f
 repeat' with_reducible first | apply Q40.f_ap | apply Q11.f_ap | apply Ap.jn | apply Ap.ite | apply Ap.bind | exact Ap.refl _ | intro
noncomputable def Q62.fc (fu : Nat) (a0_0 : List Q3) (a0_1 : Option Q2) (a0_2 : Int) (a0_3 : List Bs) (a0_4 : List Q0) (a0_5 : List Q1) (a0_6 : List Q4) (a0_7 : List (Bs × Bool)) : Option ((Option Q2) × (List Q3) × Int × Int × Bs × Int) :=
 (Q40.fc fu a0_0 a0_1 a0_2 a0_3 a0_4 a0_5 a0_6 a0_7 2).bind fun t275 =>
 jn (
 if t275.1.isNone = true then
 (Q44.fc fu t275.2.2.2.2.1).bind fun t703 =>
 some (.inl (!t703))
 else
 some (.inl false)) (fun (x486 : Bool) =>
 jn (
 if x486 = true then
 (Q11.fc fu t275.2.1 t275.1 a0_2 a0_3 a0_4 a0_5 a0_6 a0_7 t275.2.2.1 t275.2.2.2.1 t275.2.2.2.2.1 t275.2.2.2.2.2 7).bind fun t698 =>
 some (.inl t698)
 else
 some (.inl t275.1)) (fun (x696 : Option Q2) =>
 some (x696, t275.2.1, t275.2.2.1, t275.2.2.2.1, t275.2.2.2.2.1, t275.2.2.2.2.2)))
theorem Q62.f_ap (fu : Nat) (a0_0 : List Q3) (a0_1 : Option Q2) (a0_2 : Int) (a0_3 : List Bs) (a0_4 : List Q0) (a0_5 : List Q1) (a0_6 : List Q4) (a0_7 : List (Bs × Bool)) : Ap (Q62.fc fu a0_0 a0_1 a0_2 a0_3 a0_4 a0_5 a0_6 a0_7) (Q62.f a0_0 a0_1 a0_2 a0_3 a0_4 a0_5 a0_6 a0_7) := by
 unfold Q62.fc Q62.f
 repeat' with_reducible first | apply Q40.f_ap | apply Q44.f_ap | apply Q11.f_ap | apply Ap.jn | apply Ap.ite | apply Ap.bind | exact Ap.refl _ | intro
noncomputable def Q36.l0bc (fu : Nat) (a0 : List Q4) (a1_0 : Int) (a1_1 : Bs) (a1_2 x855 : Int) : Option ((Int) ⊕ ((Unit) ⊕ (Int))) :=
 if x855 < (a0.length : Int) then
 if (0 : Int) ≤ x855 ∧ x855 < (a0.length : Int) then
 if (decide (a1_0 = (gt a0 x855).from_) && (bseqC a1_1 ((gt a0 x855).action) && (decide (a1_2 = (gt a0 x855).to) && true))) = true then
 upL (some x855)
 else
 nx (IntKind.i64.wrap (x855 + 1))
 else none
 else
 dn (.inl ())
theorem Q36.l0b_ap (fu : Nat) (a0 : List Q4) (a1_0 : Int) (a1_1 : Bs) (a1_2 x855 : Int) : Ap (Q36.l0bc fu a0 a1_0 a1_1 a1_2 x855) (Q36.l0b a0 a1_0 a1_1 a1_2 x855) := by
 unfold Q36.l0bc Q36.l0b
 rw [Q124]
 repeat' with_reducible first | exact Ap.none | apply Ap.ite | apply Ap.upL | exact Ap.refl _
noncomputable def Q36.l0c (fu : Nat) (a0 : List Q4) (a1_0 : Int) (a1_1 : Bs) (a1_2 x855 : Int) : Option ((Unit) ⊕ (Int)) := iterC fu (fun t_ : Int => Q36.l0bc fu a0 a1_0 a1_1 a1_2 t_) x855
theorem Q36.l0_ap (fu : Nat) (a0 : List Q4) (a1_0 : Int) (a1_1 : Bs) (a1_2 x855 : Int) : Ap (Q36.l0c fu a0 a1_0 a1_1 a1_2 x855) (Q36.l0 a0 a1_0 a1_1 a1_2 x855) := by
 unfold Q36.l0c Q36.l0
 repeat' with_reducible first | apply Q36.l0b_ap | apply Ap.iter | exact Ap.refl _ | intro
noncomputable def Q36.fc (fu : Nat) (a0 : List Q4) (a1_0 : Int) (a1_1 : Bs) (a1_2 : Int) : Option Int :=
 jn (Q36.l0c fu a0 a1_0 a1_1 a1_2 0) (fun (_ : Unit) =>
 some (-1))
theorem Q36.f_ap (fu : Nat) (a0 : List Q4) (a1_0 : Int) (a1_1 : Bs) (a1_2 : Int) : Ap (Q36.fc fu a0 a1_0 a1_1 a1_2) (Q36.f a0 a1_0 a1_1 a1_2) := by
 unfold Q36.fc Q36.f
 repeat' with_reducible first | apply Q36.l0_ap | apply Ap.jn | exact Ap.refl _ | intro
noncomputable def Q85.fc (fu : Nat) (a0 : List Q4) (a1_0 : Int) (a1_1 : Bs) (a1_2 : Int) : Option Bool :=
 (Q36.fc fu a0 a1_0 a1_1 a1_2).bind fun t254 =>
 some (decide (0 ≤ t254))
theorem Q85.f_ap (fu : Nat) (a0 : List Q4) (a1_0 : Int) (a1_1 : Bs) (a1_2 : Int) : Ap (Q85.fc fu a0 a1_0 a1_1 a1_2) (Q85.f a0 a1_0 a1_1 a1_2) := by
 unfold Q85.fc Q85.f
 repeat' with_reducible first | apply Q36.f_ap | apply Ap.bind | exact Ap.refl _ | intro
noncomputable def Q83.fc (fu : Nat) (a0_0 : List Q3) (a0_1 : Option Q2) (a0_2 : Int) (a0_3 : List Bs) (a0_4 : List Q0) (a0_5 : List Q1) (a0_6 : List Q4) (a0_7 : List (Bs × Bool)) (a1_0 : Int) (a1_1 : Int) (a1_2 : Bs) (a1_3 : Int) : Option ((List Q4) × (List (Bs × Bool)) × (Option Q2) × (List Q3)) :=
 jn (
 if 200 ≤ (a0_6.length : Int) then
 (Q11.fc fu a0_0 a0_1 a0_2 a0_3 a0_4 a0_5 a0_6 a0_7 a1_0 a1_1 a1_2 a1_3 10).bind fun t1587 =>
 some (.inl t1587)
 else
 some (.inl a0_1)) (fun (x492 : Option Q2) =>
 (Q50.fc fu a0_0 x492 a0_2 a0_3 a0_4 a0_5 a0_6 a0_7).bind fun t493 =>
 (Q62.fc fu t493.2.1 t493.1 a0_2 a0_3 a0_4 a0_5 a0_6 a0_7).bind fun t504 =>
 jn (
 if ((mget a0_7 t504.2.2.2.2.1).getD false) = true then
 some (.inl false)
 else
 some (.inl (decide (8 ≤ (a0_7.length : Int))))) (fun (x715 : Bool) =>
 jn (
 if x715 = true then
 (Q11.fc fu t504.2.1 t504.1 a0_2 a0_3 a0_4 a0_5 a0_6 a0_7 t504.2.2.1 t504.2.2.2.1 t504.2.2.2.2.1 t504.2.2.2.2.2 10).bind fun t1581 =>
 some (.inl t1581)
 else
 some (.inl t504.1)) (fun (x925 : Option Q2) =>
 (Q50.fc fu t504.2.1 x925 a0_2 a0_3 a0_4 a0_5 a0_6 a0_7).bind fun t926 =>
 jn (
 if t926.1.isNone = true then
 (Q85.fc fu a0_6 t493.2.2.1 t504.2.2.2.2.1 t926.2.2.1).bind fun t1578 =>
 some (.inl t1578)
 else
 some (.inl false)) (fun (x1144 : Bool) =>
 jn (
 if x1144 = true then
 (Q11.fc fu t926.2.1 t926.1 a0_2 a0_3 a0_4 a0_5 a0_6 a0_7 t926.2.2.2.1 t926.2.2.2.2.1 t926.2.2.2.2.2.1 t926.2.2.2.2.2.2 9).bind fun t1573 =>
 some (.inl t1573)
 else
 some (.inl t926.1)) (fun (x1354 : Option Q2) =>
 (Q58.fc fu t926.2.1 x1354 a0_2 a0_3 a0_4 a0_5 a0_6 a0_7).bind fun t1355 =>
 if (a0_6.length + ([(⟨t493.2.2.1, t504.2.2.2.2.1, t926.2.2.1⟩ : Q4)] : List Q4).length) * 32 ≤ 140737488355328 then
 some ((a0_6 ++ ([(⟨t493.2.2.1, t504.2.2.2.2.1, t926.2.2.1⟩ : Q4)] : List Q4)), (mset a0_7 t504.2.2.2.2.1 true), t1355, t926.2.1)
 else none)))))
theorem Q83.f_ap (fu : Nat) (a0_0 : List Q3) (a0_1 : Option Q2) (a0_2 : Int) (a0_3 : List Bs) (a0_4 : List Q0) (a0_5 : List Q1) (a0_6 : List Q4) (a0_7 : List (Bs × Bool)) (a1_0 : Int) (a1_1 : Int) (a1_2 : Bs) (a1_3 : Int) : Ap (Q83.fc fu a0_0 a0_1 a0_2 a0_3 a0_4 a0_5 a0_6 a0_7 a1_0 a1_1 a1_2 a1_3) (Q83.f a0_0 a0_1 a0_2 a0_3 a0_4 a0_5 a0_6 a0_7 a1_0 a1_1 a1_2 a1_3) := by
 unfold Q83.fc Q83.f
 repeat' with_reducible first | apply Q11.f_ap | apply Q50.f_ap | apply Q62.f_ap | apply Q85.f_ap | apply Q58.f_ap | exact Ap.none | apply Ap.jn | apply Ap.ite | apply Ap.bind | exact Ap.refl _ | intro
noncomputable def Q77.fc (fu : Nat) (a0_0 : Bs) (a0_1 : List Int) (a1_0 a1_1 : Int) (a1_2 : Bs) (a1_3 : Int) : Option Bool :=
 some (bseqC a0_0 a1_2)
theorem Q77.f_ap (fu : Nat) (a0_0 : Bs) (a0_1 : List Int) (a1_0 a1_1 : Int) (a1_2 : Bs) (a1_3 : Int) : Ap (Q77.fc fu a0_0 a0_1 a1_0 a1_1 a1_2 a1_3) (Q77.f a0_0 a0_1 a1_0 a1_1 a1_2 a1_3) := by
 unfold Q77.fc Q77.f
 rw [Q124]
 repeat' with_reducible first | exact Ap.refl _
noncomputable def Q38.l0bc (fu : Nat) (a0 : List Q1) (a1_c0_0 a1_c0_1 : Int) (a1_c0_2 : Bs) (a1_c0_3 x853 : Int) : Option ((Int) ⊕ ((Unit) ⊕ (Int))) :=
 if x853 < (a0.length : Int) then
 if (0 : Int) ≤ x853 ∧ x853 < (a0.length : Int) then
 (Q77.fc fu ((gt a0 x853).Name) ((gt a0 x853).States) a1_c0_0 a1_c0_1 a1_c0_2 a1_c0_3).bind fun t1074 =>
 if t1074 = true then
 upL (some x853)
 else
 nx (IntKind.i64.wrap (x853 + 1))
 else none
 else
 dn (.inl ())
theorem Q38.l0b_ap (fu : Nat) (a0 : List Q1) (a1_c0_0 a1_c0_1 : Int) (a1_c0_2 : Bs) (a1_c0_3 x853 : Int) : Ap (Q38.l0bc fu a0 a1_c0_0 a1_c0_1 a1_c0_2 a1_c0_3 x853) (Q38.l0b a0 a1_c0_0 a1_c0_1 a1_c0_2 a1_c0_3 x853) := by
 unfold Q38.l0bc Q38.l0b
 repeat' with_reducible first | apply Q77.f_ap | exact Ap.none | apply Ap.ite | apply Ap.upL | apply Ap.bind | exact Ap.refl _ | intro
noncomputable def Q38.l0c (fu : Nat) (a0 : List Q1) (a1_c0_0 a1_c0_1 : Int) (a1_c0_2 : Bs) (a1_c0_3 x853 : Int) : Option ((Unit) ⊕ (Int)) := iterC fu (fun t_ : Int => Q38.l0bc fu a0 a1_c0_0 a1_c0_1 a1_c0_2 a1_c0_3 t_) x853
theorem Q38.l0_ap (fu : Nat) (a0 : List Q1) (a1_c0_0 a1_c0_1 : Int) (a1_c0_2 : Bs) (a1_c0_3 x853 : Int) : Ap (Q38.l0c fu a0 a1_c0_0 a1_c0_1 a1_c0_2 a1_c0_3 x853) (Q38.l0 a0 a1_c0_0 a1_c0_1 a1_c0_2 a1_c0_3 x853) := by
 unfold Q38.l0c Q38.l0
 repeat' with_reducible first | apply Q38.l0b_ap | apply Ap.iter | exact Ap.refl _ | intro
noncomputable def Q38.fc (fu : Nat) (a0 : List Q1) (a1_c0_0 a1_c0_1 : Int) (a1_c0_2 : Bs) (a1_c0_3 : Int) : Option Int :=
 jn (Q38.l0c fu a0 a1_c0_0 a1_c0_1 a1_c0_2 a1_c0_3 0) (fun (_ : Unit) =>
 some (-1))
theorem Q38.f_ap (fu : Nat) (a0 : List Q1) (a1_c0_0 a1_c0_1 : Int) (a1_c0_2 : Bs) (a1_c0_3 : Int) : Ap (Q38.fc fu a0 a1_c0_0 a1_c0_1 a1_c0_2 a1_c0_3) (Q38.f a0 a1_c0_0 a1_c0_1 a1_c0_2 a1_c0_3) := by
 unfold Q38.fc Q38.f
 repeat' with_reducible first | apply Q38.l0_ap | apply Ap.jn | exact Ap.refl _ | intro
noncomputable def Q75.fc (fu : Nat) (a0 : List Q1) (a1_c0_0 a1_c0_1 : Int) (a1_c0_2 : Bs) (a1_c0_3 : Int) : Option Bool :=
 (Q38.fc fu a0 a1_c0_0 a1_c0_1 a1_c0_2 a1_c0_3).bind fun t252 =>
 some (decide (0 ≤ t252))
theorem Q75.f_ap (fu : Nat) (a0 : List Q1) (a1_c0_0 a1_c0_1 : Int) (a1_c0_2 : Bs) (a1_c0_3 : Int) : Ap (Q75.fc fu a0 a1_c0_0 a1_c0_1 a1_c0_2 a1_c0_3) (Q75.f a0 a1_c0_0 a1_c0_1 a1_c0_2 a1_c0_3) := by
 unfold Q75.fc Q75.f
 repeat' with_reducible first | apply Q38.f_ap | apply Ap.bind | exact Ap.refl _ | intro
noncomputable def Q34.l0bc (fu : Nat) (a0 : List Int) (a1 x853 : Int) : Option ((Int) ⊕ ((Unit) ⊕ (Int))) :=
 if x853 < (a0.length : Int) then
 if (0 : Int) ≤ x853 ∧ x853 < (a0.length : Int) then
 if a1 = gt a0 x853 then
 upL (some x853)
 else
 nx (IntKind.i64.wrap (x853 + 1))
 else none
 else
 dn (.inl ())
theorem Q34.l0b_ap (fu : Nat) (a0 : List Int) (a1 x853 : Int) : Ap (Q34.l0bc fu a0 a1 x853) (Q34.l0b a0 a1 x853) := by
 unfold Q34.l0bc Q34.l0b
 repeat' with_reducible first | exact Ap.none | apply Ap.ite | apply Ap.upL | exact Ap.refl _
noncomputable def Q34.l0c (fu : Nat) (a0 : List Int) (a1 x853 : Int) : Option ((Unit) ⊕ (Int)) := iterC fu (fun t_ : Int => Q34.l0bc fu a0 a1 t_) x853
theorem Q34.l0_ap (fu : Nat) (a0 : List Int) (a1 x853 : Int) : Ap (Q34.l0c fu a0 a1 x853) (Q34.l0 a0 a1 x853) := by
 unfold Q34.l0c Q34.l0
 repeat' with_reducible first | apply Q34.l0b_ap | apply Ap.iter | exact Ap.refl _ | intro
noncomputable def Q34.fc (fu : Nat) (a0 : List Int) (a1 : Int) : Option Int :=
 jn (Q34.l0c fu a0 a1 0) (fun (_ : Unit) =>
 some (-1))
theorem Q34.f_ap (fu : Nat) (a0 : List Int) (a1 : Int) : Ap (Q34.fc fu a0 a1) (Q34.f a0 a1) := by
 unfold Q34.fc Q34.f
 repeat' with_reducible first | apply Q34.l0_ap | apply Ap.jn | exact Ap.refl _ | intro
noncomputable def Q80.fc (fu : Nat) (a0 : List Int) (a1 : Int) : Option Bool :=
 (Q34.fc fu a0 a1).bind fun t252 =>
 some (decide (0 ≤ t252))
theorem Q80.f_ap (fu : Nat) (a0 : List Int) (a1 : Int) : Ap (Q80.fc fu a0 a1) (Q80.f a0 a1) := by
 unfold Q80.fc Q80.f
 repeat' with_reducible first | apply Q34.f_ap | apply Ap.bind | exact Ap.refl _ | intro
noncomputable def Q92.fc (fu : Nat) (a0 : List Int) : Option (List Int) := soloC a0
theorem Q92.f_ap (fu : Nat) (a0 : List Int) : Ap (Q92.fc fu a0) (Q92.f a0) := fun r h => by
 obtain ⟨rfl, h⟩ := Q168 h
 rcases h with rfl | ⟨x, rfl⟩ <;> simp [Q92.f]
noncomputable def Q35.l0bc (fu : Nat) (a0_2 : Int) (a0_3 : List Bs) (a0_4 : List Q0) (a0_5 : List Q1) (a0_6 : List Q4) (a0_7 : List (Bs × Bool)) (x1101 : List Int) (x1107 : Option Q2) (x1111 : List Q3) : Option (((List Int) × (Option Q2) × (List Q3)) ⊕ (((Option Q2) × (List Int) × (List Q3)) ⊕ ((List Q1) × (Option Q2) × (List Q3)))) :=
 jn (
 if x1107.isNone = true then
 (Q60.fc fu x1111 x1107 a0_2 a0_3 a0_4 a0_5 a0_6 a0_7).bind fun t2205 =>
 some (.inl (!t2205))
 else
 some (.inl false)) (fun (x1756 : Bool) =>
 if x1756 = true then
 (Q50.fc fu x1111 x1107 a0_2 a0_3 a0_4 a0_5 a0_6 a0_7).bind fun t1762 =>
 jn (
 if t1762.1.isNone = true then
 (Q80.fc fu x1101 t1762.2.2.1).bind fun t2202 =>
 some (.inl t2202)
 else
 some (.inl false)) (fun (x1973 : Bool) =>
 jn (
 if x1973 = true then
 (Q11.fc fu t1762.2.1 t1762.1 a0_2 a0_3 a0_4 a0_5 a0_6 a0_7 t1762.2.2.2.1 t1762.2.2.2.2.1 t1762.2.2.2.2.2.1 t1762.2.2.2.2.2.2 9).bind fun t2191 =>
 some (.inl t2191)
 else
 some (.inl t1762.1)) (fun (x2183 : Option Q2) =>
 if (x1101.length + ([t1762.2.2.1] : List Int).length) * 8 ≤ 140737488355328 then
 nx ((x1101 ++ ([t1762.2.2.1] : List Int)), x2183, t1762.2.1)
 else none))
 else
 dn (.inl (x1107, x1101, x1111)))
theorem Q35.l0b_ap (fu : Nat) (a0_2 : Int) (a0_3 : List Bs) (a0_4 : List Q0) (a0_5 : List Q1) (a0_6 : List Q4) (a0_7 : List (Bs × Bool)) (x1101 : List Int) (x1107 : Option Q2) (x1111 : List Q3) : Ap (Q35.l0bc fu a0_2 a0_3 a0_4 a0_5 a0_6 a0_7 x1101 x1107 x1111) (Q35.l0b a0_2 a0_3 a0_4 a0_5 a0_6 a0_7 x1101 x1107 x1111) := by
 unfold Q35.l0bc Q35.l0b
 repeat' with_reducible first | apply Q60.f_ap | apply Q50.f_ap | apply Q80.f_ap | apply Q11.f_ap | exact Ap.none | apply Ap.jn | apply Ap.ite | apply Ap.bind | exact Ap.refl _ | intro
noncomputable def Q35.l0c (fu : Nat) (a0_2 : Int) (a0_3 : List Bs) (a0_4 : List Q0) (a0_5 : List Q1) (a0_6 : List Q4) (a0_7 : List (Bs × Bool)) (x1101 : List Int) (x1107 : Option Q2) (x1111 : List Q3) : Option (((Option Q2) × (List Int) × (List Q3)) ⊕ ((List Q1) × (Option Q2) × (List Q3))) := iterC fu (fun t_ : (List Int) × (Option Q2) × (List Q3) => Q35.l0bc fu a0_2 a0_3 a0_4 a0_5 a0_6 a0_7 t_.1 t_.2.1 t_.2.2) (x1101, x1107, x1111)
theorem Q35.l0_ap (fu : Nat) (a0_2 : Int) (a0_3 : List Bs) (a0_4 : List Q0) (a0_5 : List Q1) (a0_6 : List Q4) (a0_7 : List (Bs × Bool)) (x1101 : List Int) (x1107 : Option Q2) (x1111 : List Q3) : Ap (Q35.l0c fu a0_2 a0_3 a0_4 a0_5 a0_6 a0_7 x1101 x1107 x1111) (Q35.l0 a0_2 a0_3 a0_4 a0_5 a0_6 a0_7 x1101 x1107 x1111) := by
 unfold Q35.l0c Q35.l0
 repeat' with_reducible first | apply Q35.l0b_ap | apply Ap.iter | exact Ap.refl _ | intro
noncomputable def Q35.fc (fu : Nat) (a0_0 : List Q3) (a0_1 : Option Q2) (a0_2 : Int) (a0_3 : List Bs) (a0_4 : List Q0) (a0_5 : List Q1) (a0_6 : List Q4) (a0_7 : List (Bs × Bool)) : Option ((List Q1) × (Option Q2) × (List Q3)) :=
 (Q62.fc fu a0_0 a0_1 a0_2 a0_3 a0_4 a0_5 a0_6 a0_7).bind fun t270 =>
 jn (
 if t270.1.isNone = true then
 if 8 ≤ (a0_5.length : Int) then
 (Q11.fc fu t270.2.1 t270.1 a0_2 a0_3 a0_4 a0_5 a0_6 a0_7 t270.2.2.1 t270.2.2.2.1 t270.2.2.2.2.1 t270.2.2.2.2.2 10).bind fun t2209 =>
 some (.inl t2209)
 else
 (Q75.fc fu a0_5 t270.2.2.1 t270.2.2.2.1 t270.2.2.2.2.1 t270.2.2.2.2.2).bind fun t2219 =>
 if t2219 = true then
 (Q11.fc fu t270.2.1 t270.1 a0_2 a0_3 a0_4 a0_5 a0_6 a0_7 t270.2.2.1 t270.2.2.2.1 t270.2.2.2.2.1 t270.2.2.2.2.2 9).bind fun t2222 =>
 some (.inl t2222)
 else
 some (.inl t270.1)
 else
 up (some (a0_5, t270.1, t270.2.1))) (fun (x486 : Option Q2) =>
 jn (Q35.l0c fu a0_2 a0_3 a0_4 a0_5 a0_6 a0_7 ([] : List Int) x486 t270.2.1) (fun (s_ : (Option Q2) × (List Int) × (List Q3)) =>
 (Q92.fc fu s_.2.1).bind fun t1340 =>
 if (a0_5.length + 1) * 40 ≤ 140737488355328 then
 some ((a0_5 ++ [(⟨t270.2.2.2.2.1, t1340⟩ : Q1)]), s_.1, s_.2.2)
 else none))
theorem Q35.f_ap (fu : Nat) (a0_0 : List Q3) (a0_1 : Option Q2) (a0_2 : Int) (a0_3 : List Bs) (a0_4 : List Q0) (a0_5 : List Q1) (a0_6 : List Q4) (a0_7 : List (Bs × Bool)) : Ap (Q35.fc fu a0_0 a0_1 a0_2 a0_3 a0_4 a0_5 a0_6 a0_7) (Q35.f a0_0 a0_1 a0_2 a0_3 a0_4 a0_5 a0_6 a0_7) := by
 unfold Q35.fc Q35.f
 repeat' with_reducible first | apply Q62.f_ap | apply Q11.f_ap | apply Q75.f_ap | apply Q35.l0_ap | apply Q92.f_ap | exact Ap.none | apply Ap.jn | apply Ap.ite | apply Ap.up | apply Ap.bind | exact Ap.refl _ | intro
noncomputable def Q88.fc (fu : Nat) (a0 : List Bs) : Option (List Bs) := soloC a0
theorem Q88.f_ap (fu : Nat) (a0 : List Bs) : Ap (Q88.fc fu a0) (Q88.f a0) := fun r h => by
 obtain ⟨rfl, h⟩ := Q168 h
 rcases h with rfl | ⟨x, rfl⟩ <;> simp [Q88.f]
noncomputable def Q23.l0bc (fu : Nat) (a0 : List Bs) (a1 : Bs) (x853 : Int) : Option ((Int) ⊕ ((Unit) ⊕ (Int))) :=
 if x853 < (a0.length : Int) then
 if (0 : Int) ≤ x853 ∧ x853 < (a0.length : Int) then
 if bseqC a1 (gt a0 x853) = true then
 upL (some x853)
 else
 nx (IntKind.i64.wrap (x853 + 1))
 else none
 else
 dn (.inl ())
theorem Q23.l0b_ap (fu : Nat) (a0 : List Bs) (a1 : Bs) (x853 : Int) : Ap (Q23.l0bc fu a0 a1 x853) (Q23.l0b a0 a1 x853) := by
 unfold Q23.l0bc Q23.l0b
 rw [Q124]
 repeat' with_reducible first | exact Ap.none | apply Ap.ite | apply Ap.upL | exact Ap.refl _
noncomputable def Q23.l0c (fu : Nat) (a0 : List Bs) (a1 : Bs) (x853 : Int) : Option ((Unit) ⊕ (Int)) := iterC fu (fun t_ : Int => Q23.l0bc fu a0 a1 t_) x853
theorem Q23.l0_ap (fu : Nat) (a0 : List Bs) (a1 : Bs) (x853 : Int) : Ap (Q23.l0c fu a0 a1 x853) (Q23.l0 a0 a1 x853) := by
 unfold Q23.l0c Q23.l0
 repeat' with_reducible first | apply Q23.l0b_ap | apply Ap.iter | exact Ap.refl _ | intro
noncomputable def Q23.fc (fu : Nat) (a0 : List Bs) (a1 : Bs) : Option Int :=
 jn (Q23.l0c fu a0 a1 0) (fun (_ : Unit) =>
 some (-1))
theorem Q23.f_ap (fu : Nat) (a0 : List Bs) (a1 : Bs) : Ap (Q23.fc fu a0 a1) (Q23.f a0 a1) := by
 unfold Q23.fc Q23.f
 repeat' with_reducible first | apply Q23.l0_ap | apply Ap.jn | exact Ap.refl _ | intro
noncomputable def Q51.fc (fu : Nat) (a0 : List Q0) : Option (List Q0) := fewC (asisC (fun x y => Q56.fc fu x.From x.Action x.To y.From y.Action y.To) a0)
theorem Q51.f_ap (fu : Nat) (a0 : List Q0) : Ap (Q51.fc fu a0) (Q51.f a0) := fun r h => by
 unfold Q51.fc at h
 obtain ⟨h, hl⟩ := few_mem h
 obtain ⟨rfl, hb⟩ := asis_mem (c := Q51.cmp) (fun x y => Q56.f_ap _ _ _ _ _ _ _) h
 unfold Q51.f
 rw [if_pos ⟨by omega, edge_tot⟩, hb]
noncomputable def Q52.fc (fu : Nat) (a0 : List Q1) : Option (List Q1) := soloC a0
theorem Q52.f_ap (fu : Nat) (a0 : List Q1) : Ap (Q52.fc fu a0) (Q52.f a0) := fun r h => by
 obtain ⟨rfl, h⟩ := Q168 h
 rcases h with rfl | ⟨x, rfl⟩ <;> simp [Q52.f, byCmp, CmpParts, prop_swo]
noncomputable def Q18.l1bc (fu : Nat) (a0_6 : List Q4) (t1103 : List Bs) (x1712 : List Q0) (x1718 : Int) : Option (((List Q0) × Int) ⊕ (((List Q0)) ⊕ ((List Q1) × (List Q0) × (List Bs) × Int))) :=
 if x1718 < (a0_6.length : Int) then
 if (0 : Int) ≤ x1718 ∧ x1718 < (a0_6.length : Int) then
 (Q23.fc fu t1103 ((gt a0_6 x1718).action)).bind fun t1953 =>
 if (x1712.length + ([(⟨(gt a0_6 x1718).from_, t1953, (gt a0_6 x1718).to⟩ : Q0)] : List Q0).length) * 24 ≤ 140737488355328 then
 nx ((x1712 ++ ([(⟨(gt a0_6 x1718).from_, t1953, (gt a0_6 x1718).to⟩ : Q0)] : List Q0)), IntKind.i64.wrap (x1718 + 1))
 else none
 else none
 else
 dn (.inl x1712)
theorem Q18.l1b_ap (fu : Nat) (a0_6 : List Q4) (t1103 : List Bs) (x1712 : List Q0) (x1718 : Int) : Ap (Q18.l1bc fu a0_6 t1103 x1712 x1718) (Q18.l1b a0_6 t1103 x1712 x1718) := by
 unfold Q18.l1bc Q18.l1b
 repeat' with_reducible first | apply Q23.f_ap | exact Ap.none | apply Ap.ite | apply Ap.bind | exact Ap.refl _ | intro
noncomputable def Q18.l1c (fu : Nat) (a0_6 : List Q4) (t1103 : List Bs) (x1712 : List Q0) (x1718 : Int) : Option (((List Q0)) ⊕ ((List Q1) × (List Q0) × (List Bs) × Int)) := iterC fu (fun t_ : (List Q0) × Int => Q18.l1bc fu a0_6 t1103 t_.1 t_.2) (x1712, x1718)
theorem Q18.l1_ap (fu : Nat) (a0_6 : List Q4) (t1103 : List Bs) (x1712 : List Q0) (x1718 : Int) : Ap (Q18.l1c fu a0_6 t1103 x1712 x1718) (Q18.l1 a0_6 t1103 x1712 x1718) := by
 unfold Q18.l1c Q18.l1
 repeat' with_reducible first | apply Q18.l1b_ap | apply Ap.iter | exact Ap.refl _ | intro
noncomputable def Q18.l0bc (fu : Nat) (z1097 : Bs × Bool) (x878 : List Bs) : Option ((List Bs)) :=
 if (x878.length + ([z1097.1] : List Bs).length) * 16 ≤ 140737488355328 then
 some (x878 ++ ([z1097.1] : List Bs))
 else none
theorem Q18.l0b_ap (fu : Nat) (z1097 : Bs × Bool) (x878 : List Bs) : Ap (Q18.l0bc fu z1097 x878) (Q18.l0b z1097 x878) := by
 unfold Q18.l0bc Q18.l0b
 repeat' with_reducible first | exact Ap.none | apply Ap.ite | exact Ap.refl _
noncomputable def Q18.fc (fu : Nat) (a0_0 : List Q3) (a0_1 : Option Q2) (a0_2 : Int) (a0_3 : List Bs) (a0_4 : List Q0) (a0_5 : List Q1) (a0_6 : List Q4) (a0_7 : List (Bs × Bool)) : Option ((List Q1) × (List Q0) × (List Bs) × Int) :=
 orderedC a0_7 (fun (t_ : (List Bs)) (z_ : Bs × Bool) => Q18.l0bc fu  z_ t_) a0_3 (fun x878 => x878) (fun (x1084 : List Bs) =>
 (Q88.fc fu x1084).bind fun t1103 =>
 jn (Q18.l1c fu a0_6 t1103 a0_4 0) (fun (x1919 : List Q0) =>
 (Q51.fc fu x1919).bind fun t1936 =>
 (Q52.fc fu a0_5).bind fun t1938 =>
 some (t1938, t1936, t1103, a0_2)))
theorem Q18.f_ap (fu : Nat) (a0_0 : List Q3) (a0_1 : Option Q2) (a0_2 : Int) (a0_3 : List Bs) (a0_4 : List Q0) (a0_5 : List Q1) (a0_6 : List Q4) (a0_7 : List (Bs × Bool)) : Ap (Q18.fc fu a0_0 a0_1 a0_2 a0_3 a0_4 a0_5 a0_6 a0_7) (Q18.f a0_0 a0_1 a0_2 a0_3 a0_4 a0_5 a0_6 a0_7) := by
 unfold Q18.fc Q18.f
 repeat' with_reducible first | apply Q18.l0b_ap | apply Q88.f_ap | apply Q18.l1_ap | apply Q51.f_ap | apply Q52.f_ap | apply Ap.jn | apply Ap.ordered | apply Ap.bind | exact Ap.refl _ | intro
noncomputable def Q33.l0bc (fu : Nat) (t307 : (Option Q2) × (List Q3) × Int) (x938 : Option Q2) (x939 : List Q1) (x944 : List Q4) (x949 : List (Bs × Bool)) (x953 : List Q3) : Option (((Option Q2) × (List Q1) × (List Q4) × (List (Bs × Bool)) × (List Q3)) ⊕ (((Option Q2) × (List Q1) × (List Q4) × (List (Bs × Bool)) × (List Q3)) ⊕ ((Option Q2) × (List Bs) × (List Q0) × (List Q1) × Int))) :=
 if x938.isNone = true then
 (Q22.fc fu x953 x938 t307.2.2 ([] : List Bs) ([] : List Q0) x939 x944 x949).bind fun t1207 =>
 if (0 : Int) ≤ 0 ∧ 0 < (t1207.length : Int) then
 if (gt t1207 0).Kind = 0 then
 dn (.inl (x938, x939, x944, x949, t1207))
 else
 (Q40.fc fu t1207 x938 t307.2.2 ([] : List Bs) ([] : List Q0) x939 x944 x949 2).bind fun t1217 =>
 if t1217.1.isNone = true then
 if bseqC t1217.2.2.2.2.1 ([101, 100, 103, 101] : Bs) = true then
 (Q83.fc fu t1217.2.1 t1217.1 t307.2.2 ([] : List Bs) ([] : List Q0) x939 x944 x949 t1217.2.2.1 t1217.2.2.2.1 t1217.2.2.2.2.1 t1217.2.2.2.2.2).bind fun t1230 =>
 nx (t1230.2.2.1, x939, t1230.1, t1230.2.1, t1230.2.2.2)
 else
 if bseqC t1217.2.2.2.2.1 ([109, 97, 114, 107] : Bs) = true then
 (Q35.fc fu t1217.2.1 t1217.1 t307.2.2 ([] : List Bs) ([] : List Q0) x939 x944 x949).bind fun t1245 =>
 nx (t1245.2.1, t1245.1, x944, x949, t1245.2.2)
 else
 (Q11.fc fu t1217.2.1 t1217.1 t307.2.2 ([] : List Bs) ([] : List Q0) x939 x944 x949 t1217.2.2.1 t1217.2.2.2.1 t1217.2.2.2.2.1 t1217.2.2.2.2.2 7).bind fun t1259 =>
 nx (t1259, x939, x944, x949, t1217.2.1)
 else
 nx (t1217.1, x939, x944, x949, t1217.2.1)
 else none
 else
 dn (.inl (x938, x939, x944, x949, x953))
theorem Q33.l0b_ap (fu : Nat) (t307 : (Option Q2) × (List Q3) × Int) (x938 : Option Q2) (x939 : List Q1) (x944 : List Q4) (x949 : List (Bs × Bool)) (x953 : List Q3) : Ap (Q33.l0bc fu t307 x938 x939 x944 x949 x953) (Q33.l0b t307 x938 x939 x944 x949 x953) := by
 unfold Q33.l0bc Q33.l0b
 rw [Q124]
 repeat' with_reducible first | apply Q22.f_ap | apply Q40.f_ap | apply Q83.f_ap | apply Q35.f_ap | apply Q11.f_ap | exact Ap.none | apply Ap.ite | apply Ap.bind | exact Ap.refl _ | intro
noncomputable def Q33.l0c (fu : Nat) (t307 : (Option Q2) × (List Q3) × Int) (x938 : Option Q2) (x939 : List Q1) (x944 : List Q4) (x949 : List (Bs × Bool)) (x953 : List Q3) : Option (((Option Q2) × (List Q1) × (List Q4) × (List (Bs × Bool)) × (List Q3)) ⊕ ((Option Q2) × (List Bs) × (List Q0) × (List Q1) × Int)) := iterC fu (fun t_ : (Option Q2) × (List Q1) × (List Q4) × (List (Bs × Bool)) × (List Q3) => Q33.l0bc fu t307 t_.1 t_.2.1 t_.2.2.1 t_.2.2.2.1 t_.2.2.2.2) (x938, x939, x944, x949, x953)
theorem Q33.l0_ap (fu : Nat) (t307 : (Option Q2) × (List Q3) × Int) (x938 : Option Q2) (x939 : List Q1) (x944 : List Q4) (x949 : List (Bs × Bool)) (x953 : List Q3) : Ap (Q33.l0c fu t307 x938 x939 x944 x949 x953) (Q33.l0 t307 x938 x939 x944 x949 x953) := by
 unfold Q33.l0c Q33.l0
 repeat' with_reducible first | apply Q33.l0b_ap | apply Ap.iter | exact Ap.refl _ | intro
noncomputable def Q33.fc (fu : Nat) (a0 : Bs) : Option ((Option Q2) × (List Bs) × (List Q0) × (List Q1) × Int) :=
 (Q37.fc fu a0).bind fun t284 =>
 if t284.1.isNone = true then
 (Q74.fc fu t284.2 (none : Option Q2) 0 ([] : List Bs) ([] : List Q0) ([] : List Q1) ([] : List Q4) ([] : List (Bs × Bool))).bind fun t307 =>
 jn (Q33.l0c fu t307 t307.1 ([] : List Q1) ([] : List Q4) ([] : List (Bs × Bool)) t307.2.1) (fun (s_ : (Option Q2) × (List Q1) × (List Q4) × (List (Bs × Bool)) × (List Q3)) =>
 if s_.1.isNone = true then
 (Q18.fc fu s_.2.2.2.2 s_.1 t307.2.2 ([] : List Bs) ([] : List Q0) s_.2.1 s_.2.2.1 s_.2.2.2.1).bind fun t1189 =>
 some (none, t1189.2.2.1, t1189.2.1, t1189.1, t1189.2.2.2)
 else
 some ((some (⟨(s_.1.getD default).At, (s_.1.getD default).Err⟩ : Q2)), ([] : List Bs), ([] : List Q0), ([] : List Q1), 0))
 else
 some (t284.1, ([] : List Bs), ([] : List Q0), ([] : List Q1), 0)
theorem Q33.f_ap (fu : Nat) (a0 : Bs) : Ap (Q33.fc fu a0) (Q33.f a0) := by
 unfold Q33.fc Q33.f
 repeat' with_reducible first | apply Q37.f_ap | apply Q74.f_ap | apply Q33.l0_ap | apply Q18.f_ap | exact Ap.none | apply Ap.jn | apply Ap.ite | apply Ap.bind | exact Ap.refl _ | intro
noncomputable def Q79.fc (fu : Nat) (a0_0 : Int) (a0_1 : List (Bs × Q5)) (a0_2 : List (Q7 × Q5)) : Option Int :=
 some a0_0
theorem Q79.f_ap (fu : Nat) (a0_0 : Int) (a0_1 : List (Bs × Q5)) (a0_2 : List (Q7 × Q5)) : Ap (Q79.fc fu a0_0 a0_1 a0_2) (Q79.f a0_0 a0_1 a0_2) := by
 unfold Q79.fc Q79.f
 repeat' with_reducible first | exact Ap.refl _
noncomputable def Q86.fc (fu : Nat)  : Option Bool :=
 (Q33.fc fu ([115, 116, 97, 116, 101, 115, 32, 50, 10, 101, 100, 103, 101, 32, 49, 32, 97, 32, 48, 10, 109, 97, 114, 107, 32, 112, 32, 49, 10] : Bs)).bind fun t271 =>
 (Q8.fc fu t271.2.2.2.2 t271.2.1 t271.2.2.1 t271.2.2.2.1).bind fun t309 =>
 jn (
 if t271.1.isNone = true then
 some (.inl t309.isNone)
 else
 some (.inl true)) (fun (x513 : Bool) =>
 if x513 = true then
 some false
 else
 if t309.isNone = false then
 (Q79.fc fu ((t309.getD default).states) ((t309.getD default).holds) ((t309.getD default).next)).bind fun t530 =>
 jn (
 if t530 = 2 then
 (Q105.f ((t309.getD default).states) ((t309.getD default).holds) ((t309.getD default).next) 1 ([97] : Bs)).bind fun t946 =>
 some (.inl (decide (t946.1 = 1) && (decide (t946.2.1 = 0) && (decide (t946.2.2.1 = 0) && (decide (t946.2.2.2 = 0) && true)))))
 else
 some (.inl false)) (fun (x732 : Bool) =>
 jn (
 if x732 = true then
 (Q107.f ((t309.getD default).states) ((t309.getD default).holds) ((t309.getD default).next) ([112] : Bs)).bind fun t943 =>
 some (.inl (decide (t943.1 = 2) && (decide (t943.2.1 = 0) && (decide (t943.2.2.1 = 0) && (decide (t943.2.2.2 = 0) && true)))))
 else
 some (.inl false)) (fun (x937 : Bool) =>
 some x937))
 else none)
theorem Q86.f_ap (fu : Nat)  : Ap (Q86.fc fu ) (Q86.f ) := by
 unfold Q86.fc Q86.f
 repeat' with_reducible first | apply Q33.f_ap | apply Q8.f_ap | apply Q79.f_ap | exact Ap.none | apply Ap.jn | apply Ap.ite | apply Ap.bind | exact Ap.refl _ | intro
theorem Q257 : Q86.f = some true := Q86.f_ap 100 _ (by kernel_rfl)
end Go.Bw
namespace Go.Bw
open Go Go.RowKit

def lineE (x : List Bs) (e : Q0) : Bs := [101, 100, 103, 101, 32] ++ dec e.From.toNat ++ [32] ++ gt x e.Action ++ [32] ++ dec e.To.toNat ++ [10]
def wordN (s : Int) : Bs := [32] ++ dec s.toNat
def lineP (p : Q1) : Bs := [109, 97, 114, 107, 32] ++ p.Name ++ p.States.flatMap wordN ++ [10]
def lineS (n : Int) : Bs := [115, 116, 97, 116, 101, 115, 32] ++ dec n.toNat ++ [10]
def textS (n : Int) (x : List Bs) (y : List Q0) (z : List Q1) : Bs := lineS n ++ y.flatMap (lineE x) ++ z.flatMap lineP
theorem Q129 {n : Int} {a : List Int} (n1 : n ≤ 24) (h : StatesS n a) : a.length ≤ 24 := by
 have hr := h.2
 have hi : ∀ k : Nat, k < a.length → (k : Int) ≤ gt a (k : Int) := fun k => by
  induction k with
  | zero =>
   intro hk
   exact (h.1 _ (Q47 (xs := a) (i := 0) (by decide) (by omega))).1
  | succ k ih =>
   intro hk
   have := hr (k + 1 : Nat) (by omega) (by omega)
   have h2 := ih (by omega)
   rw [show (((k + 1 : Nat) : Int) - 1) = (k : Int) from by omega] at this
   omega
 by_cases h0 : a.length ≤ 24
 ·exact h0
 ·have h1 := hi 24 (by omega)
  have h2 := (h.1 _ (Q47 (xs := a) (i := (24 : Nat)) (by omega) (by omega))).2
  omega
section
variable {n : Int} {x : List Bs} {y : List Q0} {z : List Q1}
theorem Q145 {s : Int} (h0 : 0 ≤ s) (h1 : s < 100) : (wordN s).length ≤ 3 := by
 have := Q98 (n := s.toNat) (by omega)
 unfold wordN; simp; omega
theorem Q157 {a : List Int} (h : ∀ s ∈ a, 0 ≤ s ∧ s < 100) : (a.flatMap wordN).length ≤ a.length * 3 := by
 induction a with
 | nil => simp
 | cons s a ih =>
  have h1 := Q145 (h s (.head _)).1 (h s (.head _)).2
  have h2 := ih fun t ht => h t (.tail _ ht)
  rw [List.flatMap_cons, List.length_append, List.length_cons]
  omega
theorem RightS.name (R : RightS n x y z) {e : Q0} (he : e ∈ y) : (gt x e.Action).length ≤ 8 := by
 have hE := R.ed e he
 unfold EdgeIn at hE
 exact (R.nm _ (Q47 (by omega) (by omega))).2.1
theorem Q127 (R : RightS n x y z) {e : Q0} (he : e ∈ y) : (lineE x e).length ≤ 20 := by
 have hE := R.ed e he
 have n1 := R.n1
 unfold EdgeIn at hE
 have h1 := Q98 (n := e.From.toNat) (by omega)
 have h2 := Q98 (n := e.To.toNat) (by omega)
 have h3 := R.name he
 unfold lineE
 simp
 omega
theorem Q199 (R : RightS n x y z) {p : Q1} (hp : p ∈ z) : (lineP p).length ≤ 90 := by
 have hP := R.pr p hp
 have n1 := R.n1
 have h1 := Q129 n1 hP.2
 have h2 := Q157 (a := p.States) fun s hs => by have := hP.2.1 s hs; omega
 have h3 := hP.1.2.1
 unfold lineP
 simp only [List.length_append, List.length_cons, List.length_nil]
 omega
theorem Q132 {a b : Bs} (h : a.length + b.length ≤ 1000000) : Q48.f a b = some (a ++ b) := by
 unfold Q48.f
 rw [if_pos (by omega)]
theorem print_l0 (R : RightS n x y z) (acc : Bs) (ha : acc.length ≤ 100) : Q21.l0 x y acc 0 = some (.inl (acc ++ y.flatMap (lineE x))) := by
 have n1 := R.n1
 have ny := R.ny
 exact Q121 (L := y) (lineE x) (body := fun t_ : Bs × Int => Q21.l0b x y t_.1 t_.2) (B := 20) (M := 10000) (fun e he => Q127 R he) (fun acc i i0 i1 hacc => by
  have he := Q47 i0 i1
  have hE := R.ed _ he
  have hn := R.name he
  have hl := Q127 R he
  unfold EdgeIn at hE
  have d1 := Q98 (n := (gt y i).From.toNat) (by omega)
  have d2 := Q98 (n := (gt y i).To.toNat) (by omega)
  simp only [Q21.l0b]
  rw [if_pos i1, if_pos ⟨i0, i1⟩, if_pos ⟨hE.2.2.2.2.1, hE.2.2.2.2.2⟩, Q139 hE.1 (by omega), Q139 hE.2.2.1 (by omega)]
  simp only [Option.bind_some]
  unfold lineE at hl
  rw [if_pos (by simp; omega), if_pos (by simp; omega), if_pos (by simp; omega), if_pos (by simp; omega), if_pos (by simp; omega), if_pos (by simp; omega), Q132 (by simp at hl ⊢; omega), Option.bind_some, wrap64 (x := i + 1) (by omega) (by omega)]
  rfl) (fun acc i hi => by simp only [Q21.l0b]; rw [if_neg hi]; rfl) acc (by omega)
theorem print_l2 (R : RightS n x y z) {i : Int} (i0 : 0 ≤ i) (i1 : i < (z.length : Int)) (acc : Bs) (ha : acc.length ≤ 20000) : Q21.l2 z i acc 0 = some (.inl (acc ++ (gt z i).States.flatMap wordN)) := by
 have n1 := R.n1
 have hP := R.pr _ (Q47 i0 i1)
 have hs := Q129 n1 hP.2
 exact Q121 (L := (gt z i).States) wordN (body := fun t_ : Bs × Int => Q21.l2b z i t_.1 t_.2) (B := 3) (M := 30000) (fun s hs => by have := hP.2.1 s hs; exact Q145 this.1 (by omega)) (fun acc j j0 j1 hacc => by
  have hsm := hP.2.1 _ (Q47 j0 j1)
  have hl := Q145 hsm.1 (by omega)
  have d1 := Q98 (n := (gt (gt z i).States j).toNat) (by omega)
  simp only [Q21.l2b]
  rw [if_pos j1, if_pos ⟨j0, j1⟩, Q139 hsm.1 (by omega), Option.bind_some, if_pos (by simp; omega), Q132 (by simp; omega), Option.bind_some, wrap64 (x := j + 1) (by omega) (by omega)]
  rfl) (fun acc i hi => by simp only [Q21.l2b]; rw [if_neg hi]; rfl) acc (by omega)
theorem print_l1 (R : RightS n x y z) (acc : Bs) (ha : acc.length ≤ 10000) : Q21.l1 z acc 0 = some (.inl (acc ++ z.flatMap lineP)) := by
 have n1 := R.n1
 have nz := R.nz
 exact Q121 (L := z) lineP (body := fun t_ : Bs × Int => Q21.l1b z t_.1 t_.2) (B := 90) (M := 15000) (fun p hp => Q199 R hp) (fun acc i i0 i1 hacc => by
  have hp := Q47 i0 i1
  have hP := R.pr _ hp
  have hs := Q129 n1 hP.2
  have hw := Q157 (a := (gt z i).States) fun s hs => by have := hP.2.1 s hs; omega
  have hn := hP.1.2.1
  simp only [Q21.l1b]
  rw [if_pos i1, if_pos ⟨i0, i1⟩, if_pos (by simp; omega), Q132 (by simp; omega), Option.bind_some, print_l2 R i0 i1 _ (by simp; omega), Q49, Q132 (by simp only [List.length_append, List.length_cons, List.length_nil]; omega), Option.bind_some, wrap64 (x := i + 1) (by omega) (by omega)]
  unfold lineP
  simp only [List.append_assoc]
  rfl) (fun acc i hi => by simp only [Q21.l1b]; rw [if_neg hi]; rfl) acc (by omega)
theorem Q160 {α : Type} {f : α → Bs} {B : Nat} : ∀ {L : List α}, (∀ a ∈ L, (f a).length ≤ B) → (L.flatMap f).length ≤ L.length * B
 | [], _ => by simp
 | a :: L, h => by
  have h1 := h a (.head _)
  have h2 := Q160 (L := L) fun b hb => h b (.tail _ hb)
  rw [List.flatMap_cons, List.length_append, List.length_cons, Nat.add_mul]
  omega
theorem print_run (hs : ∀ p ∈ z, (p.States.length : Int) ≤ 9223372036854775807) : (∃ _ : RightS n x y z, Q21.f n x y z = some (textS n x y z)) ∨ (¬ RightS n x y z ∧ Q21.f n x y z = some []) := by
 obtain ⟨b, hb, hf⟩ := Q151 n x y z hs
 unfold Q21.f
 rw [hb, Option.bind_some]
 cases b with
 | false => exact .inr ⟨fun R => Bool.noConfusion (hf.2 R), by rw [if_neg (by decide)]⟩
 | true =>
  have R := hf.1 rfl
  have n0 := R.n0
  have n1 := R.n1
  have ny := R.ny
  have d := Q98 (n := n.toNat) (by omega)
  have hy := Q160 (f := lineE x) (B := 20) (L := y) fun e he => Q127 R he
  refine .inl ⟨R, ?_⟩
  rw [if_pos rfl, Q139 (by omega) (by omega), Option.bind_some, if_pos (by simp; omega), if_pos (by simp; omega), Q132 (by simp; omega), Option.bind_some, print_l0 R _ (by simp; omega), Q49, print_l1 R _ (by simp; simp at hy; omega), Q49]
  rfl
theorem ref_l0 (R : RightS n x y z) (acc : Bs) (ha : acc.length ≤ 100) : Q20.l0 x y acc 0 = some (.inl (acc ++ y.flatMap (lineE x))) := by
 have n1 := R.n1
 have ny := R.ny
 exact Q121 (L := y) (lineE x) (body := fun t_ : Bs × Int => Q20.l0b x y t_.1 t_.2) (B := 20) (M := 10000) (fun e he => Q127 R he) (fun acc i i0 i1 hacc => by
  have he := Q47 i0 i1
  have hE := R.ed _ he
  have hn := R.name he
  unfold EdgeIn at hE
  have d1 := Q98 (n := (gt y i).From.toNat) (by omega)
  have d2 := Q98 (n := (gt y i).To.toNat) (by omega)
  simp only [Q20.l0b]
  rw [if_pos i1, if_pos ⟨i0, i1⟩, if_pos (by simp; omega), Q133 hE.1 (by omega), Option.bind_some, if_pos (by simp; omega), if_pos (by simp; omega), if_pos ⟨hE.2.2.2.2.1, hE.2.2.2.2.2⟩, if_pos (by simp; omega), if_pos (by simp; omega), Q133 hE.2.2.1 (by omega), Option.bind_some, if_pos (by simp; omega), if_pos (by simp; omega), wrap64 (x := i + 1) (by omega) (by omega)]
  unfold lineE
  simp only [List.append_assoc]
  rfl) (fun acc i hi => by simp only [Q20.l0b]; rw [if_neg hi]; rfl) acc (by omega)
theorem ref_l2 (R : RightS n x y z) {i : Int} (i0 : 0 ≤ i) (i1 : i < (z.length : Int)) (acc : Bs) (ha : acc.length ≤ 20000) : Q20.l2 z i acc 0 = some (.inl (acc ++ (gt z i).States.flatMap wordN)) := by
 have n1 := R.n1
 have hP := R.pr _ (Q47 i0 i1)
 have hs := Q129 n1 hP.2
 exact Q121 (L := (gt z i).States) wordN (body := fun t_ : Bs × Int => Q20.l2b z i t_.1 t_.2) (B := 3) (M := 30000) (fun s hs => by have := hP.2.1 s hs; exact Q145 this.1 (by omega)) (fun acc j j0 j1 hacc => by
  have hsm := hP.2.1 _ (Q47 j0 j1)
  have d1 := Q98 (n := (gt (gt z i).States j).toNat) (by omega)
  simp only [Q20.l2b]
  rw [if_pos j1, if_pos (by simp; omega), if_pos ⟨j0, j1⟩, Q133 hsm.1 (by omega), Option.bind_some, if_pos (by simp; omega), wrap64 (x := j + 1) (by omega) (by omega)]
  unfold wordN
  simp only [List.append_assoc]
  rfl) (fun acc i hi => by simp only [Q20.l2b]; rw [if_neg hi]; rfl) acc (by omega)
theorem ref_l1 (R : RightS n x y z) (acc : Bs) (ha : acc.length ≤ 10000) : Q20.l1 z acc 0 = some (.inl (acc ++ z.flatMap lineP)) := by
 have n1 := R.n1
 have nz := R.nz
 exact Q121 (L := z) lineP (body := fun t_ : Bs × Int => Q20.l1b z t_.1 t_.2) (B := 90) (M := 15000) (fun p hp => Q199 R hp) (fun acc i i0 i1 hacc => by
  have hp := Q47 i0 i1
  have hP := R.pr _ hp
  have hs := Q129 n1 hP.2
  have hw := Q157 (a := (gt z i).States) fun s hs => by have := hP.2.1 s hs; omega
  have hn := hP.1.2.1
  simp only [Q20.l1b]
  rw [if_pos i1, if_pos (by simp; omega), if_pos ⟨i0, i1⟩, if_pos (by simp; omega), ref_l2 R i0 i1 _ (by simp; omega), Q49, if_pos (by simp only [List.length_append, List.length_cons, List.length_nil]; omega), wrap64 (x := i + 1) (by omega) (by omega)]
  unfold lineP
  simp only [List.append_assoc]
  rfl) (fun acc i hi => by simp only [Q20.l1b]; rw [if_neg hi]; rfl) acc (by omega)
theorem Q253 (R : RightS n x y z) (h : Q39.f n x y z = some true) : Q20.f n x y z = some (textS n x y z) := by
 have n0 := R.n0
 have n1 := R.n1
 have ny := R.ny
 have d := Q98 (n := n.toNat) (by omega)
 have hy := Q160 (f := lineE x) (B := 20) (L := y) fun e he => Q127 R he
 unfold Q20.f
 rw [h, Option.bind_some, if_pos rfl, Q133 (by omega) (by omega), Option.bind_some, if_pos (by simp; omega), if_pos (by simp; omega), ref_l0 R _ (by simp; omega), Q49, ref_l1 R _ (by simp; simp at hy; omega), Q49]
 rfl
theorem Q259 (h : Fits x y z) : Q109.f n x y z = some true := by
 obtain ⟨a, b, c, hk⟩ := kept_run (n := n) h
 have hs : ∀ p ∈ z, (p.States.length : Int) ≤ 9223372036854775807 := fun p hp => by have := h.s p hp; omega
 obtain ⟨r, h1, h2⟩ := right_eq n x y z hs
 have tx : (([] ++ x) ++ [([33] : Bs)]).take (x.length : Int).toNat = x := by simp
 have ty : (([] ++ y) ++ [(⟨-7, 0, 0⟩ : Q0)]).take (y.length : Int).toNat = y := by simp
 have hp : ∃ t, Q21.f n x y z = some t ∧ Q20.f n x y z = some t := by
  rcases print_run (n := n) (x := x) (y := y) hs with ⟨R, hp⟩ | ⟨hno, hp⟩
  ·obtain ⟨b', hb', hf⟩ := Q151 n x y z hs
   have hbt : b' = true := hf.2 R
   rw [hbt] at hb'
   rw [h1] at hb'
   have : r = true := Option.some.inj hb'
   subst this
   exact ⟨_, hp, Q253 R h2⟩
  ·obtain ⟨b', hb', hf⟩ := Q151 n x y z hs
   rw [h1] at hb'
   have e := Option.some.inj hb'
   subst e
   refine ⟨_, hp, ?_⟩
   cases r with
   | true => exact absurd (hf.1 rfl) hno
   | false => unfold Q20.f; rw [h2]; rfl
 obtain ⟨t, hp1, hp2⟩ := hp
 unfold Q109.f
 rw [Q257, lent_run h]
 simp only [Option.bind_some, tx, ty, Q185, hp1, hp2, hk, if_true, Q49, Q154]
end
end Go.Bw
namespace Go.Bw
open Go Go.RowKit Go.Proofs Go.ChangeShapes Go.WideShapes
abbrev laidP : List (String × DataW Unit) := [("math/bits.deBruijn32tab", Go.Proofs.YtbkooifhcekpmaaGreatDoor.Rows.laid_math_bits_deBruijn32tab), ("math/bits.deBruijn64tab", Go.Proofs.YtbkooifhcekpmaaGreatDoor.Rows.laid_math_bits_deBruijn64tab), ("internal/strconv.uint64pow10", Go.Proofs.YtbkooifhcekpmaaGreatDoor.Rows.laid_internal_strconv_uint64pow10)]
theorem Q240 (os : Os) (args : Array Value) : laidMetH Tryz.prog laidP ((World.doorLaid Tryz.prog 31 os).forCall (fun _ _ => 0) ⟨#[], args, []⟩).memory :=
 laidMetH_of_parts3 (fuel := 8) (laidMet_of_run' 8 (by kernel_rfl) (by kernel_rfl)) (by kernel_rfl) (by kernel_rfl)
end Go.Bw
namespace Go.Bw
open Go Go.RowKit Go.Proofs
theorem fits_of {x : List Bs} {y : List Q0} {z : List Q1} (hx : x.length * Tryz.prog.bytesOf 9 ≤ reachBytes) (hy : y.length * Tryz.prog.bytesOf 35 ≤ reachBytes) (hz : z.length * Tryz.prog.bytesOf 37 ≤ reachBytes) (hs : ∀ p ∈ z, p.States.length * Tryz.prog.bytesOf 3 ≤ reachBytes) : Fits x y z := by
 have b1 : Tryz.prog.bytesOf 9 = 16 := by kernel_rfl
 have b2 : Tryz.prog.bytesOf 35 = 24 := by kernel_rfl
 have b3 : Tryz.prog.bytesOf 37 = 40 := by kernel_rfl
 have b4 : Tryz.prog.bytesOf 3 = 8 := by kernel_rfl
 have hr : reachBytes = 140737488351232 := rfl
 rw [b1, hr] at hx
 rw [b2, hr] at hy
 rw [b3, hr] at hz
 rw [b4, hr] at hs
 exact ⟨by omega, by omega, by omega, fun p hp => by have := hs p hp; omega⟩
theorem Q232 {n : Int} {x : List Bs} {y : List Q0} {z : List Q1} (_h : (Lit.int .i64 n).wf = true ∧ (x.length ≤ maxLen ∧ ∀ s ∈ x, s.length ≤ maxLen) ∧ (y.length ≤ maxLen ∧ ∀ e ∈ y, ((Lit.int .i64 e.From).wf = true ∧ (Lit.int .i64 e.Action).wf = true ∧ (Lit.int .i64 e.To).wf = true)) ∧
 (z.length ≤ maxLen ∧ ∀ p ∈ z, (p.Name.length ≤ maxLen ∧ (p.States.length ≤ maxLen ∧ ∀ s ∈ p.States, (Lit.int .i64 s).wf = true))))
 (w : True ∧ (x.length * Tryz.prog.bytesOf 9 ≤ reachBytes ∧ ∀ s ∈ x, True) ∧ (y.length * Tryz.prog.bytesOf 35 ≤ reachBytes ∧ ∀ e ∈ y, (True ∧ True ∧ True)) ∧ (z.length * Tryz.prog.bytesOf 37 ≤ reachBytes ∧ ∀ p ∈ z, (True ∧ (p.States.length * Tryz.prog.bytesOf 3 ≤ reachBytes ∧ ∀ s ∈ p.States, True)))) :
 Q109.f n x y z = some true := Q259 (fits_of w.2.1.1 w.2.2.1.1 w.2.2.2.1 fun p hp => (w.2.2.2.2 p hp).2.1)
end Go.Bw
