/- BisimAlike, part 7: walks and plain laws. Conditions: none. -/
import Derived.Test.YtbkooifhcekpmaaGreatDoorProg
import Derived.Deep.QuietTactic
import Derived.Test.YtbkooifhcekpmaaGreatDoorRows
import Derived.LaidMore
import Derived.ProofKit
import Derived.OpenShut
import Derived.Stop.Joined
import Derived.Test.YtbkooifhcekpmaaGreatDoorBwBisimAlikeF
set_option linter.unusedVariables false
set_option linter.unusedSimpArgs false
set_option linter.unusedSectionVars false
set_option maxRecDepth 100000
set_option maxHeartbeats 2000000
namespace Go.Bw
open Go Go.RowKit

def W8 (v : BitVec 8) : Int := (v.toNat : Int)
theorem Q148 (v : BitVec 8) : BitVec.ofInt 8 (W8 v) = v := by
 unfold W8
 apply BitVec.eq_of_toNat_eq
 simp
theorem W8.inj {u v : BitVec 8} (h : W8 u = W8 v) : u = v := by rw [← Q148 u, h, Q148]
theorem wrap8 {x : Int} (h0 : 0 ≤ x) (h1 : x < 256) : IntKind.u8.wrap x = x := by
 simp [IntKind.wrap, IntKind.bits, IntKind.signed]
 omega
theorem wrap_w8 (v : BitVec 8) : IntKind.u8.wrap (v.toNat : Int) = W8 v := by
 have := v.isLt
 exact wrap8 (by omega) (by omega)
theorem bor_w8 (u v : BitVec 8) : bor .u8 (W8 u) (W8 v) = W8 (u ||| v) := by
 show IntKind.u8.wrap ((BitVec.ofInt 8 (W8 u) ||| BitVec.ofInt 8 (W8 v)).toNat : Int) = _
 rw [Q148, Q148, wrap_w8]
theorem shl8 {k : Int} (h0 : 0 ≤ k) (h1 : k < 8) : Bw.shl .u8 1 k = W8 (BitVec.twoPow 8 k.toNat) := by
 obtain ⟨m, rfl⟩ := Int.eq_ofNat_of_zero_le h0
 have hm : m < 8 := by omega
 match m, hm with
 | 0, _ => rfl
 | 1, _ => rfl
 | 2, _ => rfl
 | 3, _ => rfl
 | 4, _ => rfl
 | 5, _ => rfl
 | 6, _ => rfl
 | 7, _ => rfl
def full8 (m : Nat) : BitVec 8 := BitVec.allOnes 8 >>> (8 - m)
theorem full_run {m : Nat} (hm : m ≤ 8) : IntKind.u8.wrap (Bw.shl .u8 1 (m : Int) - 1) = W8 (full8 m) := by
 match m, hm with
 | 0, _ => rfl
 | 1, _ => rfl
 | 2, _ => rfl
 | 3, _ => rfl
 | 4, _ => rfl
 | 5, _ => rfl
 | 6, _ => rfl
 | 7, _ => rfl
 | 8, _ => rfl
theorem Q202 {m k : Nat} (hm : m ≤ 8) (hk : k < 8) : (full8 m).getLsbD k = decide (k < m) := by
 unfold full8
 rw [BitVec.getLsbD_ushiftRight, BitVec.getLsbD_allOnes]
 rw [decide_eq_decide]
 omega
def UsedS (m : Nat) (y : List Q0) : Prop := ∀ k : Int, 0 ≤ k → k < (m : Int) → ∃ e ∈ y, e.Action = k
def Mask (v : BitVec 8) (y : List Q0) : Prop := ∀ k : Nat, k < 8 → (v.getLsbD k = true ↔ ∃ e ∈ y, e.Action = (k : Int))
theorem Q226 {v : BitVec 8} {y : List Q0} {n : Int} {m : Nat} (hv : Mask v y) (hm : m ≤ 8) (he : ∀ e ∈ y, EdgeIn n m e) : v = full8 m ↔ UsedS m y := by
 constructor
 ·rintro rfl k k0 k1
  have := (hv k.toNat (by omega)).1 (by rw [Q202 hm (by omega)]; simp; omega)
  obtain ⟨e, h1, h2⟩ := this
  exact ⟨e, h1, by omega⟩
 ·intro h
  apply BitVec.eq_of_getLsbD_eq
  intro k hk
  rw [Q202 hm hk, Bool.eq_iff_iff, hv k hk, decide_eq_true_eq]
  constructor
  ·rintro ⟨e, h1, h2⟩
   have := (he e h1).2.2.2.2.2
   omega
  ·intro hkm
   exact h k (by omega) (by omega)
theorem edges_iff (n : Int) (x : List Bs) (y : List Q0) (z : List Q2) (hy : (y.length : Int) ≤ 9223372036854775807) (hx : x.length ≤ 8) :
 (∃ v, Q18.l0 n x y z 0 0 = some (.inl (W8 v)) ∧ Mask v y ∧ ∀ e ∈ y, EdgeIn n x.length e) ∨ (Q18.l0 n x y z 0 0 = some (.inr false) ∧ ¬ ∀ e ∈ y, EdgeIn n x.length e) := by
 obtain ⟨r, hr, hq⟩ := Q69 (body := fun t_ : Int × Int => Q18.l0b n x y z t_.1 t_.2) (fun s => 0 ≤ s.2 ∧ s.2 ≤ (y.length : Int) ∧ (∀ e ∈ y.take s.2.toNat, EdgeIn n x.length e) ∧ ∃ v, s.1 = W8 v ∧ Mask v (y.take s.2.toNat))
  (fun r => (∃ v, r = .inl (W8 v) ∧ Mask v y ∧ ∀ e ∈ y, EdgeIn n x.length e) ∨ (r = .inr false ∧ ¬ ∀ e ∈ y, EdgeIn n x.length e)) (fun s => ((y.length : Int) - s.2).toNat) (fun ⟨u, i⟩ ⟨h0, h1, h2, v, h3, h4⟩ => by
   dsimp only at h0 h1 h2 h3 h4 ⊢
   subst h3
   unfold Q18.l0b
   by_cases hi : i < (y.length : Int)
   ·have hm := Q102 h0 hi
    rw [if_pos hi, if_pos ⟨h0, hi⟩, in_run, in_run]
    simp only [Option.bind_some]
    by_cases e1 : 0 ≤ (gt y i).From ∧ (gt y i).From < n
    ·by_cases e2 : 0 ≤ (gt y i).To ∧ (gt y i).To < n
     ·by_cases e3 : (gt y i).Action < 0
      ·left; exact ⟨_, by simp [e1, e2, e3, jn, upL], .inr ⟨rfl, fun h => by have := (h _ hm).2.2.2.2.1; omega⟩⟩
      ·by_cases e4 : (x.length : Int) ≤ (gt y i).Action
       ·left; exact ⟨_, by simp [e1, e2, e3, e4, jn, upL], .inr ⟨rfl, fun h => by have := (h _ hm).2.2.2.2.2; omega⟩⟩
       ·right
        have e5 : 0 ≤ (gt y i).Action := by omega
        have hw : IntKind.i64.wrap (i + 1) = i + 1 := wrap64 (by omega) (by omega)
        have ht : y.take (i + 1).toNat = y.take i.toNat ++ [gt y i] := by
         rw [show (i + 1).toNat = i.toNat + 1 from by omega, List.take_add_one, Q105 h0 hi]; rfl
        refine ⟨(W8 (v ||| BitVec.twoPow 8 (gt y i).Action.toNat), i + 1), by simp [e1, e2, e3, e4, e5, jn, nx, hw, shl8 e5 (by omega), bor_w8], ⟨by dsimp only; omega, by dsimp only; omega, fun e he => ?_, _, rfl, fun k hk => ?_⟩, by dsimp only; omega⟩
        ·dsimp only at he
         rw [ht] at he
         rcases List.mem_append.1 he with he | he
         ·exact h2 e he
         ·simp at he; subst he
          exact ⟨e1.1, e1.2, e2.1, e2.2, e5, by omega⟩
        ·dsimp only
         rw [ht, BitVec.getLsbD_or, Bool.or_eq_true, h4 k hk, BitVec.getLsbD_twoPow]
         constructor
         ·rintro (⟨e, a, b⟩ | h)
          ·exact ⟨e, by simp [a], b⟩
          ·simp at h
           exact ⟨gt y i, by simp, by omega⟩
         ·rintro ⟨e, a, b⟩
          rcases List.mem_append.1 a with a | a
          ·exact .inl ⟨e, a, b⟩
          ·simp at a
           subst a
           right
           simp
           omega
     ·left; exact ⟨_, by simp [e1, e2, jn, upL], .inr ⟨rfl, fun h => e2 ⟨(h _ hm).2.2.1, (h _ hm).2.2.2.1⟩⟩⟩
    ·left; exact ⟨_, by simp [e1, jn, upL], .inr ⟨rfl, fun h => e1 ⟨(h _ hm).1, (h _ hm).2.1⟩⟩⟩
   ·left
    rw [if_neg hi]
    rw [List.take_of_length_le (by omega)] at h2 h4
    exact ⟨_, rfl, .inl ⟨v, rfl, h4, h2⟩⟩) (0, 0) ⟨Int.le_refl _, by dsimp only; omega, by simp, 0#8, rfl, fun k hk => by simp⟩
 rcases hq with ⟨v, rfl, h⟩ | ⟨rfl, h⟩
 ·exact .inl ⟨v, hr, h⟩
 ·exact .inr ⟨hr, h⟩
def PropS (n : Int) (p : Q2) : Prop := NameS p.Name ∧ StatesS n p.States
theorem props_iff (n : Int) (x : List Bs) (y : List Q0) (z : List Q2) (hz : (z.length : Int) ≤ 9223372036854775807) (hs : ∀ p ∈ z, (p.States.length : Int) ≤ 9223372036854775807) :
 (Q18.l1 n x y z 0 = some (.inl ()) ∧ ∀ p ∈ z, PropS n p) ∨ (Q18.l1 n x y z 0 = some (.inr false) ∧ ¬ ∀ p ∈ z, PropS n p) := by
 have key := Q130 (body := fun t_ : Int => Q18.l1b n x y z t_) (N := z.length) (p := fun i => PropS n (gt z i)) (bad := false) hz 0 (by decide) (fun i hi h1 => by
  simp only [Q18.l1b]
  obtain ⟨b1, hb1, c1⟩ := Q201 (gt z i).Name
  obtain ⟨b2, hb2, c2⟩ := Q239 (gt z i).States (hs _ (Q102 hi h1))
  obtain ⟨b3, hb3, c3⟩ := inS_iff (gt z i).States n x y z (hs _ (Q102 hi h1))
  rw [if_pos h1, if_pos ⟨hi, h1⟩, hb1, hb2, hb3]
  unfold PropS StatesS
  rw [← c1, ← c2]
  have c3' : (∀ s ∈ (gt z i).States, 0 ≤ s ∧ s < n) ↔ b3 = false := by
   cases b3 with
   | true => simp only [Bool.true_eq_false, iff_false]; exact c3.1 rfl
   | false => simp only [iff_true]; exact Classical.not_not.1 fun h => by have := c3.2 h; cases this
  rw [c3']
  cases b1 <;> cases b2 <;> cases b3 <;> simp [jn, nx, upL]) (fun i h => by simp only [Q18.l1b]; rw [if_neg h]; rfl)
 have hiff : (∀ i : Int, 0 ≤ i → i < (z.length : Int) → PropS n (gt z i)) ↔ ∀ p ∈ z, PropS n p := by
  constructor
  ·intro h p hp
   obtain ⟨k, hk, rfl⟩ := List.getElem_of_mem hp
   have := h k (by omega) (by omega)
   rwa [Q114 (List.getElem?_eq_getElem hk)] at this
  ·exact fun h i i0 i1 => h _ (Q102 i0 i1)
 rcases key with ⟨h, q⟩ | ⟨h, i, i0, i1, i2⟩
 ·exact .inl ⟨h, hiff.1 q⟩
 ·exact .inr ⟨h, fun hr => i2 (hiff.2 hr i i0 i1)⟩
structure RightS (n : Int) (x : List Bs) (y : List Q0) (z : List Q2) : Prop where
 n0 : 1 ≤ n
 n1 : n ≤ 24
 nx : x.length ≤ 8
 nz : z.length ≤ 8
 ny : y.length ≤ 200
 ed : ∀ e ∈ y, EdgeIn n x.length e
 pr : ∀ p ∈ z, PropS n p
 nm : ∀ s ∈ x, NameS s
 us : UsedS x.length y
 re : Rise edgeLt y
 rx : Rise BLt x
 rz : Rise (fun p q => BLt p.Name q.Name) z
theorem Q209 (n : Int) (x : List Bs) (y : List Q0) (z : List Q2) (hs : ∀ p ∈ z, (p.States.length : Int) ≤ 9223372036854775807) : ∃ b, Q18.f n x y z = some b ∧ (b = true ↔ RightS n x y z) := by
 have no : ∀ {P : Prop}, ¬ P → (false = true ↔ P) := fun h => ⟨fun e => (by cases e), fun p => absurd p h⟩
 unfold Q18.f
 by_cases h1 : n < 1
 ·exact ⟨false, by simp [h1, jn], no fun h => by have := h.n0; omega⟩
 by_cases h2 : 24 < n
 ·exact ⟨false, by simp [h1, h2, jn], no fun h => by have := h.n1; omega⟩
 by_cases h3 : 8 < (x.length : Int)
 ·exact ⟨false, by simp [h1, h2, h3, jn], no fun h => by have := h.nx; omega⟩
 by_cases h4 : 8 < (z.length : Int)
 ·exact ⟨false, by simp [h1, h2, h3, h4, jn], no fun h => by have := h.nz; omega⟩
 by_cases h5 : 200 < (y.length : Int)
 ·exact ⟨false, by simp [h1, h2, h3, h4, h5, jn], no fun h => by have := h.ny; omega⟩
 simp only [if_neg h1, Q28, decide_eq_false h2, decide_eq_false h3, decide_eq_false h4, decide_eq_false h5, Bool.false_eq_true, if_false]
 rcases edges_iff n x y z (by omega) (by omega) with ⟨v, hr, hm, he⟩ | ⟨hr, he⟩
 ·rw [hr, Q28]
  rcases props_iff n x y z (by omega) hs with ⟨hp, hpp⟩ | ⟨hp, hpp⟩
  ·rw [hp, Q28]
   obtain ⟨b1, hb1, c1⟩ := names_iff x (by omega)
   obtain ⟨b2, hb2, c2⟩ := Q248 y (by omega)
   obtain ⟨b3, hb3, c3⟩ := Q272 x (by omega)
   obtain ⟨b4, hb4, c4⟩ := Q244 z (by omega)
   have h0 : (0 : Int) ≤ (x.length : Int) := by omega
   have hu : (W8 v = W8 (full8 x.length)) ↔ UsedS x.length y := ⟨fun h => (Q226 hm (by omega) he).1 (W8.inj h), fun h => by rw [(Q226 hm (by omega) he).2 h]⟩
   simp only [hb1, hb2, hb3, hb4, Option.bind_some, if_pos h0, full_run (show x.length ≤ 8 by omega)]
   by_cases k1 : b1 = true
   ·subst k1
    exact ⟨false, by simp [jn], no fun h => c1.1 rfl h.nm⟩
   ·have k1' : b1 = false := by simpa using k1
    subst k1'
    have hnm : ∀ s ∈ x, NameS s := Classical.not_not.1 fun h => by have := c1.2 h; cases this
    by_cases k2 : W8 v = W8 (full8 x.length)
    ·cases b2 with
     | false => exact ⟨false, by simp [jn, k2], no fun h => by have := c2.2 h.re; cases this⟩
     | true =>
      cases b3 with
      | false => exact ⟨false, by simp [jn, k2], no fun h => by have := c3.2 h.rx; cases this⟩
      | true =>
       cases b4 with
       | false => exact ⟨false, by simp [jn, k2], no fun h => by have := c4.2 h.rz; cases this⟩
       | true => exact ⟨true, by simp [jn, k2], by simp only [true_iff]; exact ⟨by omega, by omega, by omega, by omega, by omega, he, hpp, hnm, hu.1 k2, c2.1 rfl, c3.1 rfl, c4.1 rfl⟩⟩
    ·exact ⟨false, by simp [jn, k2], no fun h => k2 (hu.2 h.us)⟩
  ·rw [hp]
   exact ⟨false, rfl, no fun h => hpp h.pr⟩
 ·rw [hr]
  exact ⟨false, rfl, no fun h => he h.ed⟩
end Go.Bw
namespace Go.Bw
open Go Go.RowKit

theorem rise_ne {z : List Q2} (h : Rise (fun p q => BLt p.Name q.Name) z) {i j : Int} (h0 : 0 ≤ i) (h1 : i < j) (h2 : j < (z.length : Int)) : (gt z i).Name ≠ (gt z j).Name := by
 have key : ∀ k : Nat, i + k + 1 < (z.length : Int) → BLt (gt z i).Name (gt z (i + k + 1)).Name := fun k => by
  induction k with
  | zero =>
   intro hk
   have := h (i + 1) (by omega) (by omega)
   rw [show i + 1 - 1 = i from by omega] at this
   rw [show i + ((0 : Nat) : Int) + 1 = i + 1 from by omega]
   exact this
  | succ k ih =>
   intro hk
   have h3 := ih (by omega)
   have h4 := h (i + (k + 1 : Nat) + 1) (by omega) (by omega)
   rw [show i + ((k + 1 : Nat) : Int) + 1 - 1 = i + k + 1 from by omega] at h4
   exact Q151 h3 h4
 have := key (j - i - 1).toNat (by omega)
 rw [show i + ((j - i - 1).toNat : Int) + 1 = j from by omega] at this
 intro e
 rw [e] at this
 unfold BLt at this
 rw [Q177] at this
 omega
end Go.Bw
namespace Go.Bw
open Go Go.RowKit

def B8 (v : BitVec 8) : Int := (v.toNat : Int)
theorem B8.inj {u v : BitVec 8} (h : B8 u = B8 v) : u = v := by
 apply BitVec.eq_of_toNat_eq
 unfold B8 at h
 omega
theorem b8wrap {x : Int} (h0 : 0 ≤ x) (h1 : x < 256) : IntKind.u8.wrap x = x := by
 simp [IntKind.wrap, IntKind.bits, IntKind.signed]
 omega
theorem Q192 (v : BitVec 8) : BitVec.ofInt 8 (B8 v) = v := by
 unfold B8
 apply BitVec.eq_of_toNat_eq
 simp
theorem bor_B8 (u v : BitVec 8) : bor .u8 (B8 u) (B8 v) = B8 (u ||| v) := by
 show IntKind.u8.wrap ((BitVec.ofInt 8 (B8 u) ||| BitVec.ofInt 8 (B8 v)).toNat : Int) = _
 rw [Q192, Q192]
 have := (u ||| v).isLt
 exact b8wrap (by omega) (by omega)
theorem b8shl : ∀ k : Fin 8, Bw.shl .u8 1 (k.1 : Int) = B8 (BitVec.twoPow 8 k.1) := by decide +kernel
def mk8 (p : Nat → Bool) : Nat → BitVec 8
 | 0 => 0#8
 | m + 1 => if p m = true then mk8 p m ||| BitVec.twoPow 8 m else mk8 p m
theorem Q137 (p : Nat → Bool) : ∀ (m : Nat), m ≤ 8 → ∀ i, i < 8 → (mk8 p m).getLsbD i = (decide (i < m) && p i)
 | 0, _, i, _ => by simp [mk8]
 | m + 1, hm, i, hi => by
  have ih := Q137 p m (by omega) i hi
  unfold mk8
  by_cases hp : p m = true
  ·rw [if_pos hp, BitVec.getLsbD_or, ih, BitVec.getLsbD_twoPow]
   by_cases h : i = m
   ·subst h; simp [hp, hi]
   ·have e1 : decide (i < m + 1) = decide (i < m) := decide_eq_decide.2 (by omega)
    have e2 : decide (m = i) = false := decide_eq_false (fun q => h q.symm)
    rw [e1, e2]; simp
  ·rw [if_neg hp, ih]
   by_cases h : i = m
   ·subst h; simp [hp]
   ·have e1 : decide (i < m + 1) = decide (i < m) := decide_eq_decide.2 (by omega)
    rw [e1]
theorem mk8_iff {p q : Nat → Bool} {m : Nat} (hm : m ≤ 8) : mk8 p m = mk8 q m ↔ ∀ i, i < m → p i = q i := by
 constructor
 ·intro h i hi
  have := congrArg (fun z => z.getLsbD i) h
  simp only [Q137 _ m hm i (by omega), decide_eq_true hi, Bool.true_and] at this
  exact this
 ·intro h
  apply BitVec.eq_of_getLsbD_eq
  intro i hi
  rw [Q137 _ m hm i hi, Q137 _ m hm i hi]
  by_cases h1 : i < m
  ·rw [h i h1]
  ·rw [decide_eq_false h1]; rfl
section
variable {n : Int} {x : List Bs} {y : List Q0} {z : List Q2} {next : List (Q8 × Q4)} {holds : List (Bs × Q4)}
def Hs (z : List Q2) (i : Nat) (s : Int) : Prop := i < z.length ∧ ∃ p ∈ z, p.Name = (gt z i).Name ∧ s ∈ p.States
def Es (x : List Bs) (y : List Q0) (i : Nat) (s t : Int) : Prop := i < x.length ∧ Hit x y ⟨s, gt x i⟩ t
noncomputable def hoW (hh : Hx z holds) (a : Bs) : W4 := (hh a).choose
theorem hoW_rep (hh : Hx z holds) (a : Bs) : (hoW hh a).Rep (fun t => ∃ p ∈ z, p.Name = a ∧ t ∈ p.States) := (hh a).choose_spec.2
theorem hoW_run (hh : Hx z holds) (n : Int) (next : List (Q8 × Q4)) (a : Bs) : Q66.f n holds next a = some (hoW hh a).t := by
 have h := (hh a).choose_spec.1
 unfold Q66.f
 rw [h]
 rfl
noncomputable def hoP (hh : Hx z holds) (s : Int) (i : Nat) : Bool := (hoW hh (gt z i).Name).has s
theorem Q132 (hh : Hx z holds) {s : Int} (s0 : 0 ≤ s) (s1 : s < 256) {i : Nat} (hi : i < z.length) : hoP hh s i = true ↔ Hs z i s := by
 unfold hoP Hs
 rw [hoW_rep hh _ s s0 s1]
 exact ⟨fun h => ⟨hi, h⟩, fun h => h.2⟩
theorem mask_l0 (hh : Hx z holds) (hz : z.length ≤ 8) {s : Int} (s0 : 0 ≤ s) (s1 : s < 256) : ∀ (q i : Nat), i + q = z.length →
 iter (fun t_ : (Option Q1) × Int × Int => Q29.l0b s z t_.1 t_.2.1 t_.2.2) (some ⟨n, holds, next⟩, B8 (mk8 (hoP hh s) i), (i : Int)) = some (.inl (some ⟨n, holds, next⟩, B8 (mk8 (hoP hh s) z.length))) := fun q => by
 induction q with
 | zero =>
  intro i hi
  have : i = z.length := by omega
  subst this
  refine Q169 ?_
  simp only [Q29.l0b]
  rw [if_neg (by omega)]
  rfl
 | succ q ih =>
  intro i hi
  have hlt : (i : Int) < (z.length : Int) := by omega
  have hw : IntKind.i64.wrap ((i : Int) + 1) = ((i + 1 : Nat) : Int) := by rw [wrap64 (by omega) (by omega)]; omega
  have hsh := b8shl ⟨i, by omega⟩
  have hb : Q29.l0b s z (some ⟨n, holds, next⟩) (B8 (mk8 (hoP hh s) i)) (i : Int) = some (.inl (some ⟨n, holds, next⟩, B8 (mk8 (hoP hh s) (i + 1)), ((i + 1 : Nat) : Int))) := by
   unfold Q29.l0b
   rw [if_pos hlt, if_pos ⟨by omega, hlt⟩]
   simp only [Option.isNone_some, if_true, Option.getD_some, hoW_run hh, Option.bind_some, W4.t, has_run, decide_eq_true (show 0 ≤ s ∧ s < 256 from ⟨s0, s1⟩), Bool.true_and]
   have hp : (hoW hh (gt z (i : Int)).Name).has s = hoP hh s i := rfl
   rw [hp]
   by_cases hc : hoP hh s i = true
   ·rw [if_pos hc, if_pos (by omega), Q28, hw, hsh, bor_B8]
    have : mk8 (hoP hh s) (i + 1) = mk8 (hoP hh s) i ||| BitVec.twoPow 8 i := by rw [mk8, if_pos hc]
    rw [this]
    rfl
   ·rw [if_neg hc, Q28, hw]
    have : mk8 (hoP hh s) (i + 1) = mk8 (hoP hh s) i := by rw [mk8, if_neg hc]
    rw [this]
    rfl
  rw [Q154 (body := fun t_ : (Option Q1) × Int × Int => Q29.l0b s z t_.1 t_.2.1 t_.2.2) hb]
  exact ih (i + 1) (by omega)
theorem mask_run (hh : Hx z holds) (hz : z.length ≤ 8) {s : Int} (s0 : 0 ≤ s) (s1 : s < 256) (m : Int) (x' : List Bs) (y' : List Q0) :
 Q29.f s m x' y' z (some ⟨n, holds, next⟩) = some (some ⟨n, holds, next⟩, B8 (mk8 (hoP hh s) z.length)) := by
 have h := mask_l0 (n := n) (next := next) hh hz s0 s1 z.length 0 (by omega)
 have h' : Q29.l0 s z (some ⟨n, holds, next⟩) 0 0 = some (.inl (some ⟨n, holds, next⟩, B8 (mk8 (hoP hh s) z.length))) := h
 unfold Q29.f
 rw [h', Q28]
theorem num8_run (hh : Hx z holds) (hn0 : 0 ≤ n) (hn : n ≤ 24) (hz : z.length ≤ 8) (m : Int) (x' : List Bs) (y' : List Q0) :
 ∃ l', Q31.f n m x' y' z (some ⟨n, holds, next⟩) = some (l', some ⟨n, holds, next⟩) ∧ NumBy (fun s => B8 (mk8 (hoP hh s) z.length)) n l' := by
 have hlen : (((List.replicate n.toNat (0 : Int)).length : Nat) : Int) = n := by simp; omega
 obtain ⟨r, hr, l', mp, rfl, hi⟩ := Q69 (body := fun t_ : (List Int) × (List (Int × Int)) × (Option Q1) × Int => Q31.l0b n m x' y' z t_.1 t_.2.1 t_.2.2.1 t_.2.2.2)
  (fun s => s.2.2.1 = some ⟨n, holds, next⟩ ∧ 0 ≤ s.2.2.2 ∧ s.2.2.2 ≤ n ∧ NInv (fun s => B8 (mk8 (hoP hh s) z.length)) n s.2.2.2 s.1 s.2.1)
  (fun r => ∃ l' mp, r = .inl (l', mp, some ⟨n, holds, next⟩) ∧ NInv (fun s => B8 (mk8 (hoP hh s) z.length)) n n l' mp) (fun s => (n - s.2.2.2).toNat) (fun ⟨a, mp, o, i⟩ ⟨h1, h2, h3, h4⟩ => by
   dsimp only at h1 h2 h3 h4 ⊢
   subst h1
   by_cases hi : i < n
   ·right
    have hs := mask_run (n := n) (next := next) hh hz h2 (by omega) m x' y'
    have hw : IntKind.i64.wrap (i + 1) = i + 1 := wrap64 (by omega) (by omega)
    cases hm : mget mp (B8 (mk8 (hoP hh i) z.length)) with
    | some v =>
     refine ⟨(st a i v, mp, some ⟨n, holds, next⟩, i + 1), ?_, ⟨rfl, by dsimp only; omega, by dsimp only; omega, h4.hit h2 hi hm⟩, by dsimp only; omega⟩
     unfold Q31.l0b
     rw [hlen, if_pos hi, hs, Option.bind_some]
     simp only [hm, Option.isSome_some, if_true, Option.getD_some, if_pos (show (0 : Int) ≤ i ∧ i < n from ⟨h2, hi⟩), Q28, hw]
     rfl
    | none =>
     refine ⟨(st a i (mp.length : Int), mset mp (B8 (mk8 (hoP hh i) z.length)) (mp.length : Int), some ⟨n, holds, next⟩, i + 1), ?_, ⟨rfl, by dsimp only; omega, by dsimp only; omega, h4.new h2 hi hm⟩, by dsimp only; omega⟩
     unfold Q31.l0b
     rw [hlen, if_pos hi, hs, Option.bind_some]
     have hk2 : mget (mset mp (B8 (mk8 (hoP hh i) z.length)) (mp.length : Int)) (B8 (mk8 (hoP hh i) z.length)) = some (mp.length : Int) := by rw [Q116, if_pos rfl]
     simp only [hm, hk2, Option.isSome_none, Bool.false_eq_true, if_false, Option.getD_some, if_pos (show (0 : Int) ≤ i ∧ i < n from ⟨h2, hi⟩), Q28, hw]
     rfl
   ·left
    have hin : i = n := by omega
    subst hin
    refine ⟨.inl (a, mp, some ⟨i, holds, next⟩), ?_, a, mp, rfl, h4⟩
    unfold Q31.l0b
    rw [hlen, if_neg hi]
    rfl) (List.replicate n.toNat 0, [], some ⟨n, holds, next⟩, 0) ⟨rfl, Int.le_refl _, hn0, NInv.zero hlen⟩
 refine ⟨l', ?_, hi.fin⟩
 unfold Q31.f
 have hl0 : Q31.l0 n m x' y' z (List.replicate n.toNat 0) [] (some ⟨n, holds, next⟩) 0 = some (.inl (l', mp, some ⟨n, holds, next⟩)) := hr
 rw [if_pos (by omega), hl0, Q28]
end
end Go.Bw
namespace Go.Bw
open Go Go.RowKit

theorem equal_run {a b : List Int} (hn : a.length = b.length) (ha : (a.length : Int) ≤ 9223372036854775807) : Q32.f a b = some (decide (a = b)) := by
 unfold Q32.f
 rw [if_pos (by omega)]
 obtain ⟨r, hr, hq⟩ := Q69 (body := fun t_ : Int => Q32.l0b a b t_) (fun i => 0 ≤ i ∧ i ≤ (a.length : Int) ∧ ∀ j : Int, 0 ≤ j → j < i → gt a j = gt b j)
  (fun r => (r = .inl () ∧ a = b) ∨ (r = .inr false ∧ a ≠ b)) (fun i => ((a.length : Int) - i).toNat) (fun i ⟨h0, h1, h2⟩ => by
   unfold Q32.l0b
   by_cases hi : i < (a.length : Int)
   ·rw [if_pos hi, if_pos ⟨h0, hi⟩, if_pos ⟨h0, by omega⟩]
    by_cases he : gt a i = gt b i
    ·right
     rw [if_pos he, wrap64 (x := i + 1) (by omega) (by omega)]
     refine ⟨_, rfl, ⟨by omega, by omega, fun j j0 j1 => ?_⟩, by omega⟩
     by_cases hj : j = i
     ·subst hj; exact he
     ·exact h2 j j0 (by omega)
    ·left
     rw [if_neg he]
     exact ⟨_, rfl, .inr ⟨rfl, fun e => he (by rw [e])⟩⟩
   ·left
    rw [if_neg hi]
    exact ⟨_, rfl, .inl ⟨rfl, ext_gt hn fun k hk => h2 k (by omega) (by omega)⟩⟩) 0 ⟨Int.le_refl _, by omega, fun j h0 h1 => by omega⟩
 have hl : Q32.l0 a b 0 = some r := hr
 rcases hq with ⟨rfl, h⟩ | ⟨rfl, h⟩
 ·rw [hl, Q28, decide_eq_true h]
 ·rw [hl, decide_eq_false h]; rfl
theorem putc_rep {u : W4} {S : Int → Prop} (h : u.Rep S) {c : Int} (h0 : 0 ≤ c) (h1 : c < 256) : (putc u c).Rep (fun m => S m ∨ m = c) := by
 unfold putc
 rw [if_pos ⟨h0, h1⟩]
 exact W4.put_rep h h0 h1
theorem Q225 (g : Int → Int) : ∀ {L : List Int} {u : W4} {S : Int → Prop}, u.Rep S → (∀ t ∈ L, 0 ≤ g t ∧ g t < 256) → (L.foldl (fun u t => putc u (g t)) u).Rep (fun c => S c ∨ ∃ t ∈ L, g t = c)
 | [], u, S, h, _ => fun n n0 n1 => by rw [List.foldl_nil, h n n0 n1]; simp
 | t :: L, u, S, h, hg => by
  have h1 := hg t (.head _)
  have ih := Q225 g (L := L) (putc_rep h h1.1 h1.2) fun s hs => hg s (.tail _ hs)
  rw [List.foldl_cons]
  intro n n0 n1
  rw [ih n n0 n1]
  constructor
  ·rintro ((h | h) | ⟨s, a, b⟩)
   ·exact .inl h
   ·exact .inr ⟨t, .head _, h.symm⟩
   ·exact .inr ⟨s, .tail _ a, b⟩
  ·rintro (h | ⟨s, a, b⟩)
   ·exact .inl (.inl h)
   ·rcases List.mem_cons.1 a with rfl | a
    ·exact .inl (.inr b.symm)
    ·exact .inr ⟨s, a, b⟩
theorem s_inj {u v : W4} (h : u.s = v.s) : u = v := by
 unfold W4.s at h
 simp only [Q4.mk.injEq] at h
 obtain ⟨h1, h2, h3, h4⟩ := h
 cases u
 cases v
 simp only [W4.mk.injEq]
 exact ⟨Wd.inj h1, Wd.inj h2, Wd.inj h3, Wd.inj h4⟩
theorem sgK_iff {c d : Int} {f g : Int → W4} : sgK c f = sgK d g ↔ c = d ∧ ∀ j : Int, 0 ≤ j → j < 8 → f j = g j := by
 unfold sgK
 simp only [Q19.mk.injEq, A68.mk.injEq]
 constructor
 ·rintro ⟨h, a, b, c, d, e, f, g, i⟩
  refine ⟨h, fun j j0 j1 => ?_⟩
  have hj : j = 0 ∨ j = 1 ∨ j = 2 ∨ j = 3 ∨ j = 4 ∨ j = 5 ∨ j = 6 ∨ j = 7 := by omega
  rcases hj with rfl | rfl | rfl | rfl | rfl | rfl | rfl | rfl <;> exact s_inj (by assumption)
 ·rintro ⟨h, k⟩
  refine ⟨h, ?_, ?_, ?_, ?_, ?_, ?_, ?_, ?_⟩ <;> (rw [k _ (by decide) (by decide)])
section
variable {n : Int} {x : List Bs} {y : List Q0} {z : List Q2} {next : List (Q8 × Q4)} {holds : List (Bs × Q4)}
theorem Q109 (hn : n ≤ 24) (he : ∀ e ∈ y, EdgeIn n x.length e) : Within n (Es x y) := fun a s t ⟨_, e, h1, h2, h3, _⟩ => by
 have h2' : e.From = s := h2
 have := he e h1
 unfold EdgeIn at this
 omega
theorem Q143 (hx : Nx x y next) (hn : n ≤ 24) (he : ∀ e ∈ y, EdgeIn n x.length e) {l : List Int} (hl : ∀ t : Int, 0 ≤ t → t < n → 0 ≤ gt l t ∧ gt l t < 256) (s : Int) {i : Nat} (hi : i < x.length) :
 (sgF hx l s x.length i).Rep (fun c => ∃ t, Es x y i s t ∧ gt l t = c) := by
 have h := Q225 (gt l) (L := (nxW hx s (gt x i)).list) W4.z_rep (fun t ht => by have := nxW_in hx hn he ht; exact hl t this.1 this.2)
 unfold sgF
 rw [if_pos ⟨by omega, by omega⟩]
 intro c c0 c1
 rw [h c c0 c1]
 constructor
 ·rintro (h | ⟨t, a, b⟩)
  ·exact h.elim
  ·exact ⟨t, ⟨hi, ((Q127 (Q128 hx s (gt x i))).1 a).2.2⟩, b⟩
 ·rintro ⟨t, a, b⟩
  have := Q109 hn he i s t a
  exact .inr ⟨t, (Q127 (Q128 hx s (gt x i))).2 ⟨by omega, by omega, a.2⟩, b⟩
theorem canon_lt {l : List Int} (h : Canon l) : ∀ i : Int, 0 ≤ i → i < (l.length : Int) → 0 ≤ gt l i ∧ gt l i ≤ i := by
 have key : ∀ (k : Nat) (i : Int), i.toNat = k → 0 ≤ i → i < (l.length : Int) → gt l i ≤ i := fun k => by
  induction k using Nat.strongRecOn with
  | _ k ih =>
   intro i hk h0 h1
   by_cases hg : gt l i ≤ 0
   ·omega
   ·obtain ⟨j, j0, j1, j2⟩ := (h i h0 h1).2 (gt l i - 1) (by omega) (by omega)
    have := ih j.toNat (by omega) j rfl j0 (by omega)
    omega
 exact fun i h0 h1 => ⟨(h i h0 h1).1, key _ i rfl h0 h1⟩
structure CInv (n : Int) (x : List Bs) (y : List Q0) (z : List Q2) (l : List Int) : Prop where
 len : (l.length : Int) = n
 canon : Canon l
 coarse : ∀ s t : Int, 0 ≤ s → s < n → 0 ≤ t → t < n → Alike (Hs z) (Es x y) s t → gt l s = gt l t
 props : ∀ s t : Int, 0 ≤ s → s < n → 0 ≤ t → t < n → gt l s = gt l t → ∀ i, Hs z i s ↔ Hs z i t
theorem CInv.first (hh : Hx z holds) (hn : n ≤ 24) (hz : z.length ≤ 8) {l : List Int} (h : NumBy (fun s => B8 (mk8 (hoP hh s) z.length)) n l) : CInv n x y z l := by
 have key : ∀ s t : Int, 0 ≤ s → s < n → 0 ≤ t → t < n → (gt l s = gt l t ↔ ∀ i, Hs z i s ↔ Hs z i t) := fun s t s0 s1 t0 t1 => by
  rw [h.iff s t s0 s1 t0 t1]
  constructor
  ·intro e i
   by_cases hi : i < z.length
   ·have := (mk8_iff hz).1 (B8.inj e) i hi
    rw [← Q132 hh s0 (by omega) hi, ← Q132 hh t0 (by omega) hi, this]
   ·exact ⟨fun q => absurd q.1 hi, fun q => absurd q.1 hi⟩
  ·intro e
   refine congrArg B8 ((mk8_iff hz).2 fun i hi => ?_)
   rw [Bool.eq_iff_iff, Q132 hh s0 (by omega) hi, Q132 hh t0 (by omega) hi]
   exact e i
 exact ⟨h.len, h.canon, fun s t s0 s1 t0 t1 ha => (key s t s0 s1 t0 t1).2 (Alike.ks.hd s t ha), fun s t s0 s1 t0 t1 e => (key s t s0 s1 t0 t1).1 e⟩
theorem Q147 (hx : Nx x y next) (hn : n ≤ 24) (hl8 : x.length ≤ 8) (he : ∀ e ∈ y, EdgeIn n x.length e) {l l' : List Int} (c : CInv n x y z l) (h : NumBy (fun s => sgK (gt l s) (sgF hx l s x.length)) n l') {s t : Int} (s0 : 0 ≤ s) (s1 : s < n) (t0 : 0 ≤ t) (t1 : t < n) :
 gt l' s = gt l' t ↔ gt l s = gt l t ∧ ∀ i, ∀ d, (∃ s', Es x y i s s' ∧ gt l s' = d) ↔ (∃ t', Es x y i t t' ∧ gt l t' = d) := by
 have hlt : ∀ t : Int, 0 ≤ t → t < n → 0 ≤ gt l t ∧ gt l t < 256 := fun t t0 t1 => by have := canon_lt c.canon t t0 (by rw [c.len]; exact t1); omega
 rw [h.iff s t s0 s1 t0 t1, sgK_iff]
 refine and_congr Iff.rfl ?_
 constructor
 ·intro e i d
  by_cases hi : i < x.length
  ·have hr := Q143 hx hn he hlt s hi
   have hr' := Q143 hx hn he hlt t hi
   have := e i (by omega) (by omega)
   rw [this] at hr
   constructor
   ·rintro ⟨s', a, b⟩
    have w := Q109 hn he i s s' a
    have hd := hlt s' w.2.2.1 w.2.2.2
    rw [b] at hd
    exact (hr' d hd.1 hd.2).1 ((hr d hd.1 hd.2).2 ⟨s', a, b⟩)
   ·rintro ⟨t', a, b⟩
    have w := Q109 hn he i t t' a
    have hd := hlt t' w.2.2.1 w.2.2.2
    rw [b] at hd
    exact (hr d hd.1 hd.2).1 ((hr' d hd.1 hd.2).2 ⟨t', a, b⟩)
  ·exact ⟨fun ⟨_, a, _⟩ => absurd a.1 hi, fun ⟨_, a, _⟩ => absurd a.1 hi⟩
 ·intro e j j0 j1
  by_cases hj : j < (x.length : Int)
  ·have hr := Q143 hx hn he hlt s (i := j.toNat) (by omega)
   have hr' := Q143 hx hn he hlt t (i := j.toNat) (by omega)
   rw [show ((j.toNat : Nat) : Int) = j from by omega] at hr hr'
   exact hr.uniq hr' fun d _ _ => e j.toNat d
  ·unfold sgF
   rw [if_neg (by omega), if_neg (by omega)]
theorem CInv.step (hx : Nx x y next) (hn : n ≤ 24) (hl8 : x.length ≤ 8) (he : ∀ e ∈ y, EdgeIn n x.length e) {l l' : List Int} (c : CInv n x y z l) (h : NumBy (fun s => sgK (gt l s) (sgF hx l s x.length)) n l') : CInv n x y z l' := by
 refine ⟨h.len, h.canon, fun s t s0 s1 t0 t1 ha => ?_, fun s t s0 s1 t0 t1 e => c.props s t s0 s1 t0 t1 ((Q147 hx hn hl8 he c h s0 s1 t0 t1).1 e).1⟩
 refine (Q147 hx hn hl8 he c h s0 s1 t0 t1).2 ⟨c.coarse s t s0 s1 t0 t1 ha, fun i d => ⟨fun ⟨s', a, b⟩ => ?_, fun ⟨t', a, b⟩ => ?_⟩⟩
 ·obtain ⟨t', a', q⟩ := Alike.ks.fw s t ha i s' a
  have w := Q109 hn he i s s' a
  have w' := Q109 hn he i t t' a'
  exact ⟨t', a', by rw [← c.coarse s' t' w.2.2.1 w.2.2.2 w'.2.2.1 w'.2.2.2 q]; exact b⟩
 ·obtain ⟨s', a', q⟩ := Alike.ks.bw s t ha i t' a
  have w := Q109 hn he i t t' a
  have w' := Q109 hn he i s s' a'
  exact ⟨s', a', by rw [c.coarse s' t' w'.2.2.1 w'.2.2.2 w.2.2.1 w.2.2.2 q]; exact b⟩
theorem CInv.fin (hx : Nx x y next) (hn : n ≤ 24) (hl8 : x.length ≤ 8) (he : ∀ e ∈ y, EdgeIn n x.length e) {l : List Int} (c : CInv n x y z l) (h : NumBy (fun s => sgK (gt l s) (sgF hx l s x.length)) n l) : Cls n (Hs z) (Es x y) l :=
 cls_of (Q109 hn he) c.len c.canon c.coarse fun s t s0 s1 t0 t1 e => ⟨c.props s t s0 s1 t0 t1 e, fun i s' a => by
  obtain ⟨t', a', b⟩ := (((Q147 hx hn hl8 he c h s0 s1 t0 t1).1 e).2 i (gt l s')).1 ⟨s', a, rfl⟩
  exact ⟨t', a', b.symm⟩⟩
theorem loop_run (hx : Nx x y next) (hn0 : 0 ≤ n) (hn : n ≤ 24) (hl8 : x.length ≤ 8) (he : ∀ e ∈ y, EdgeIn n x.length e) {l : List Int} (c : CInv n x y z l) :
 ∃ l', Q27.l0 n x y z l (some ⟨n, holds, next⟩) = some (.inr l') ∧ Cls n (Hs z) (Es x y) l' := by
 obtain ⟨r, hr, l', rfl, h⟩ := Q69 (body := fun t_ : (List Int) × (Option Q1) => Q27.l0b n x y z t_.1 t_.2) (fun s => s.2 = some ⟨n, holds, next⟩ ∧ CInv n x y z s.1)
  (fun r => ∃ l', r = .inr l' ∧ Cls n (Hs z) (Es x y) l') (fun s => pairs n.toNat fun a b => decide (gt s.1 (a : Int) = gt s.1 (b : Int))) (fun ⟨l, o⟩ ⟨h1, c⟩ => by
   dsimp only at h1 c ⊢
   subst h1
   obtain ⟨l', hl', hb⟩ := num_run (holds := holds) hx hn0 hn hl8 he l c.len n y z
   have c' := c.step hx hn hl8 he hb
   have hlen : l'.length = l.length := by have := c.len; have := hb.len; omega
   unfold Q27.l0b
   rw [hl', Option.bind_some, equal_run hlen (by have := hb.len; omega), Option.bind_some]
   by_cases e : l' = l
   ·left
    subst e
    rw [if_pos (decide_eq_true rfl)]
    exact ⟨_, rfl, l', rfl, c.fin hx hn hl8 he hb⟩
   ·right
    rw [if_neg (by simpa using e)]
    refine ⟨_, rfl, ⟨rfl, c'⟩, ?_⟩
    dsimp only
    have hsub : ∀ a b : Int, 0 ≤ a → a < n → 0 ≤ b → b < n → gt l' a = gt l' b → gt l a = gt l b := fun a b a0 a1 b0 b1 q => ((Q147 hx hn hl8 he c hb a0 a1 b0 b1).1 q).1
    have hex : ∃ a b : Int, (0 ≤ a ∧ a < n) ∧ (0 ≤ b ∧ b < n) ∧ gt l a = gt l b ∧ gt l' a ≠ gt l' b := Classical.byContradiction fun hno => e (hb.canon.uniq c.canon hlen fun a b a0 a1 b0 b1 => by
     rw [hb.len] at a1 b1
     exact ⟨hsub a b a0 a1 b0 b1, fun q => Classical.byContradiction fun q' => hno ⟨a, b, ⟨a0, a1⟩, ⟨b0, b1⟩, q, q'⟩⟩)
    obtain ⟨a, b, ⟨a0, a1⟩, ⟨b0, b1⟩, q1, q2⟩ := hex
    refine pairs_lt (fun i j hi hj q => ?_) (a := a.toNat) (b := b.toNat) (by omega) (by omega) ?_ ?_
    ·rw [decide_eq_true_eq] at q ⊢
     exact hsub i j (by omega) (by omega) (by omega) (by omega) q
    ·rw [show ((a.toNat : Nat) : Int) = a from by omega, show ((b.toNat : Nat) : Int) = b from by omega]
     exact decide_eq_false q2
    ·rw [show ((a.toNat : Nat) : Int) = a from by omega, show ((b.toNat : Nat) : Int) = b from by omega]
     exact decide_eq_true q1) (l, some ⟨n, holds, next⟩) ⟨rfl, c⟩
 exact ⟨l', hr, h⟩
end
theorem Q243 (n : Int) (x : List Bs) (y : List Q0) (z : List Q2) (hs : ∀ p ∈ z, (p.States.length : Int) ≤ 9223372036854775807) :
 (¬ RightS n x y z ∧ Q11.f n x y z = some none ∧ Q27.f n x y z = some []) ∨ (RightS n x y z ∧ ∃ l, Q27.f n x y z = some l ∧ Cls n (Hs z) (Es x y) l) := by
 obtain ⟨b, hb, hf⟩ := Q209 n x y z hs
 cases b with
 | false =>
  left
  have hN : Q11.f n x y z = some none := by unfold Q11.f; rw [hb]; simp
  refine ⟨fun h => (by have := hf.2 h; cases this), hN, ?_⟩
  unfold Q27.f
  rw [hN]
  rfl
 | true =>
  right
  have R := hf.1 rfl
  obtain ⟨m0, hm0, hh⟩ := Q220 z (by have := R.nz; omega) hs (fun i j h0 h1 h2 => rise_ne R.rz h0 h1 h2)
  obtain ⟨m1, hm1, hx⟩ := l1_run n x y (by have := R.ny; omega) R.ed R.n1
  have hN : Q11.f n x y z = some (some ⟨n, m0, m1⟩) := by unfold Q11.f; rw [hb]; simp [hm0, hm1, jn]
  obtain ⟨l0, hl0, hb0⟩ := num8_run (n := n) (next := m1) hh (by have := R.n0; omega) R.n1 R.nz n x y
  obtain ⟨l, hl, hc⟩ := loop_run (holds := m0) hx (by have := R.n0; omega) R.n1 R.nx R.ed (CInv.first (x := x) (y := y) hh R.n1 R.nz hb0)
  refine ⟨R, l, ?_, hc⟩
  unfold Q27.f
  rw [hN, Option.bind_some]
  simp only [Option.isNone_some, Bool.false_eq_true, if_false]
  rw [hl0, Option.bind_some, hl]
  rfl
end Go.Bw
namespace Go.Bw
open Go Go.RowKit

section
variable {n : Int} {x : List Bs} {y : List Q0} {z : List Q2}
def side (n s a : Int) : Int := if s < n then a else a + n
end
end Go.Bw
namespace Go.Bw
open Go Go.RowKit Go.Proofs
noncomputable def Q13.l6b (t265 : (List Int)) (t4798 : (List Int)) (t4807 : (List Int)) (x6228 : Int) (x7043 : Bool) (x7044 : Int) : Option ((Bool × Int) ⊕ ((Bool) ⊕ ((Int) ⊕ ((Unit) ⊕ (((Option Q1) × Int) ⊕ (((Option Q1)) ⊕ (((Option Q1)) ⊕ (((Option Q1) × Int) ⊕ (((Option Q1)) ⊕ (((Option Q1) × Int) ⊕ (((Option Q1)) ⊕ (Bool)))))))))))) :=
 if x7044 < (t4798.length : Int) then
 jn (
 if x7043 = true then
 some (.inl true)
 else
 if (0 : Int) ≤ x6228 ∧ x6228 < (t4807.length : Int) then
 if (0 : Int) ≤ gt t4807 x6228 ∧ gt t4807 x6228 < (t265.length : Int) then
 if (0 : Int) ≤ x7044 ∧ x7044 < (t4798.length : Int) then
 if (0 : Int) ≤ gt t4798 x7044 ∧ gt t4798 x7044 < (t265.length : Int) then
 some (.inl (decide (gt t265 (gt t4807 x6228) = gt t265 (gt t4798 x7044))))
 else none
 else none
 else none
 else none) (fun (x7459 : Bool) =>
 nx (x7459, IntKind.i64.wrap (x7044 + 1)))
 else
 dn (.inl x7043)
noncomputable def Q13.l6 (t265 : (List Int)) (t4798 : (List Int)) (t4807 : (List Int)) (x6228 : Int) (x7043 : Bool) (x7044 : Int) : Option ((Bool) ⊕ ((Int) ⊕ ((Unit) ⊕ (((Option Q1) × Int) ⊕ (((Option Q1)) ⊕ (((Option Q1)) ⊕ (((Option Q1) × Int) ⊕ (((Option Q1)) ⊕ (((Option Q1) × Int) ⊕ (((Option Q1)) ⊕ (Bool))))))))))) := iter (fun t_ : Bool × Int => Q13.l6b t265 t4798 t4807 x6228 t_.1 t_.2) (x7043, x7044)
noncomputable def Q13.l5b (t265 : (List Int)) (t4798 : (List Int)) (t4807 : (List Int)) (x6228 : Int) : Option ((Int) ⊕ ((Unit) ⊕ (((Option Q1) × Int) ⊕ (((Option Q1)) ⊕ (((Option Q1)) ⊕ (((Option Q1) × Int) ⊕ (((Option Q1)) ⊕ (((Option Q1) × Int) ⊕ (((Option Q1)) ⊕ (Bool)))))))))) :=
 if x6228 < (t4807.length : Int) then
 jn (Q13.l6 t265 t4798 t4807 x6228 false 0) (fun (x7245 : Bool) =>
 if x7245 = true then
 nx (IntKind.i64.wrap (x6228 + 1))
 else
 upL (upL (up (upL (upL (some false))))))
 else
 dn (.inl ())
noncomputable def Q13.l5 (t265 : (List Int)) (t4798 : (List Int)) (t4807 : (List Int)) (x6228 : Int) : Option ((Unit) ⊕ (((Option Q1) × Int) ⊕ (((Option Q1)) ⊕ (((Option Q1)) ⊕ (((Option Q1) × Int) ⊕ (((Option Q1)) ⊕ (((Option Q1) × Int) ⊕ (((Option Q1)) ⊕ (Bool))))))))) := iter (fun t_ : Int => Q13.l5b t265 t4798 t4807 t_) x6228
noncomputable def Q13.l7b (t265 : (List Int)) (t4798 : (List Int)) (t4807 : (List Int)) (x5415 : Int) (x8072 : Bool) (x8073 : Int) : Option ((Bool × Int) ⊕ ((Bool) ⊕ ((Int) ⊕ ((Unit) ⊕ (((Option Q1) × Int) ⊕ (((Option Q1)) ⊕ (((Option Q1)) ⊕ (((Option Q1) × Int) ⊕ (((Option Q1)) ⊕ (((Option Q1) × Int) ⊕ (((Option Q1)) ⊕ (Bool)))))))))))) :=
 if x8073 < (t4807.length : Int) then
 jn (
 if x8072 = true then
 some (.inl true)
 else
 if (0 : Int) ≤ x5415 ∧ x5415 < (t4798.length : Int) then
 if (0 : Int) ≤ gt t4798 x5415 ∧ gt t4798 x5415 < (t265.length : Int) then
 if (0 : Int) ≤ x8073 ∧ x8073 < (t4807.length : Int) then
 if (0 : Int) ≤ gt t4807 x8073 ∧ gt t4807 x8073 < (t265.length : Int) then
 some (.inl (decide (gt t265 (gt t4798 x5415) = gt t265 (gt t4807 x8073))))
 else none
 else none
 else none
 else none) (fun (x8488 : Bool) =>
 nx (x8488, IntKind.i64.wrap (x8073 + 1)))
 else
 dn (.inl x8072)
noncomputable def Q13.l7 (t265 : (List Int)) (t4798 : (List Int)) (t4807 : (List Int)) (x5415 : Int) (x8072 : Bool) (x8073 : Int) : Option ((Bool) ⊕ ((Int) ⊕ ((Unit) ⊕ (((Option Q1) × Int) ⊕ (((Option Q1)) ⊕ (((Option Q1)) ⊕ (((Option Q1) × Int) ⊕ (((Option Q1)) ⊕ (((Option Q1) × Int) ⊕ (((Option Q1)) ⊕ (Bool))))))))))) := iter (fun t_ : Bool × Int => Q13.l7b t265 t4798 t4807 x5415 t_.1 t_.2) (x8072, x8073)
noncomputable def Q13.l4b (t265 : (List Int)) (t4798 : (List Int)) (t4807 : (List Int)) (x5415 : Int) : Option ((Int) ⊕ ((Unit) ⊕ (((Option Q1) × Int) ⊕ (((Option Q1)) ⊕ (((Option Q1)) ⊕ (((Option Q1) × Int) ⊕ (((Option Q1)) ⊕ (((Option Q1) × Int) ⊕ (((Option Q1)) ⊕ (Bool)))))))))) :=
 if x5415 < (t4798.length : Int) then
 jn (Q13.l7 t265 t4798 t4807 x5415 false 0) (fun (x8274 : Bool) =>
 if x8274 = true then
 nx (IntKind.i64.wrap (x5415 + 1))
 else
 upL (upL (up (upL (upL (some false))))))
 else
 dn (.inl ())
noncomputable def Q13.l4 (t265 : (List Int)) (t4798 : (List Int)) (t4807 : (List Int)) (x5415 : Int) : Option ((Unit) ⊕ (((Option Q1) × Int) ⊕ (((Option Q1)) ⊕ (((Option Q1)) ⊕ (((Option Q1) × Int) ⊕ (((Option Q1)) ⊕ (((Option Q1) × Int) ⊕ (((Option Q1)) ⊕ (Bool))))))))) := iter (fun t_ : Int => Q13.l4b t265 t4798 t4807 t_) x5415
noncomputable def Q13.l3b (a0_1 : List Bs) (t265 : (List Int)) (x1901 x2721 : Int) (x4568 : Option Q1) (x4569 : Int) : Option (((Option Q1) × Int) ⊕ (((Option Q1)) ⊕ (((Option Q1)) ⊕ (((Option Q1) × Int) ⊕ (((Option Q1)) ⊕ (((Option Q1) × Int) ⊕ (((Option Q1)) ⊕ (Bool)))))))) :=
 if x4569 < (a0_1.length : Int) then
 if (0 : Int) ≤ x4569 ∧ x4569 < (a0_1.length : Int) then
 if x4568.isNone = false then
 (Q61.f ((x4568.getD default).states) ((x4568.getD default).holds) ((x4568.getD default).next) x1901 (gt a0_1 x4569)).bind fun t4796 =>
 (Q10.f t4796.1 t4796.2.1 t4796.2.2.1 t4796.2.2.2).bind fun t4798 =>
 (Q61.f ((x4568.getD default).states) ((x4568.getD default).holds) ((x4568.getD default).next) x2721 (gt a0_1 x4569)).bind fun t4805 =>
 (Q10.f t4805.1 t4805.2.1 t4805.2.2.1 t4805.2.2.2).bind fun t4807 =>
 jn (Q13.l4 t265 t4798 t4807 0) (fun (_ : Unit) =>
 jn (Q13.l5 t265 t4798 t4807 0) (fun (_ : Unit) =>
 nx ((some (⟨((x4568.getD default).states), (x4568.getD default).holds, (x4568.getD default).next⟩ : Q1)), IntKind.i64.wrap (x4569 + 1))))
 else none
 else none
 else
 dn (.inl x4568)
noncomputable def Q13.l3 (a0_1 : List Bs) (t265 : (List Int)) (x1901 x2721 : Int) (x4568 : Option Q1) (x4569 : Int) : Option (((Option Q1)) ⊕ (((Option Q1)) ⊕ (((Option Q1) × Int) ⊕ (((Option Q1)) ⊕ (((Option Q1) × Int) ⊕ (((Option Q1)) ⊕ (Bool))))))) := iter (fun t_ : (Option Q1) × Int => Q13.l3b a0_1 t265 x1901 x2721 t_.1 t_.2) (x4568, x4569)
noncomputable def Q13.l2b (a0_3 : List Q2) (x1901 x2721 : Int) (x3749 : Option Q1) (x3750 : Int) : Option (((Option Q1) × Int) ⊕ (((Option Q1)) ⊕ (((Option Q1)) ⊕ (((Option Q1) × Int) ⊕ (((Option Q1)) ⊕ (((Option Q1) × Int) ⊕ (((Option Q1)) ⊕ (Bool)))))))) :=
 if x3750 < (a0_3.length : Int) then
 if (0 : Int) ≤ x3750 ∧ x3750 < (a0_3.length : Int) then
 if x3749.isNone = false then
 (Q66.f ((x3749.getD default).states) ((x3749.getD default).holds) ((x3749.getD default).next) ((gt a0_3 x3750).Name)).bind fun t8511 =>
 (Q63.f t8511.1 t8511.2.1 t8511.2.2.1 t8511.2.2.2 x1901).bind fun t8514 =>
 (Q63.f t8511.1 t8511.2.1 t8511.2.2.1 t8511.2.2.2 x2721).bind fun t8516 =>
 if (t8514 == t8516) = true then
 nx ((some (⟨((x3749.getD default).states), (x3749.getD default).holds, (x3749.getD default).next⟩ : Q1)), IntKind.i64.wrap (x3750 + 1))
 else
 upL (up (upL (upL (some false))))
 else none
 else none
 else
 dn (.inl x3749)
noncomputable def Q13.l2 (a0_3 : List Q2) (x1901 x2721 : Int) (x3749 : Option Q1) (x3750 : Int) : Option (((Option Q1)) ⊕ (((Option Q1)) ⊕ (((Option Q1) × Int) ⊕ (((Option Q1)) ⊕ (((Option Q1) × Int) ⊕ (((Option Q1)) ⊕ (Bool))))))) := iter (fun t_ : (Option Q1) × Int => Q13.l2b a0_3 x1901 x2721 t_.1 t_.2) (x3749, x3750)
noncomputable def Q13.l1b (a0_1 : List Bs) (a0_3 : List Q2) (t265 : (List Int)) (x1901 : Int) (x2720 : Option Q1) (x2721 : Int) : Option (((Option Q1) × Int) ⊕ (((Option Q1)) ⊕ (((Option Q1) × Int) ⊕ (((Option Q1)) ⊕ (Bool))))) :=
 if x2721 < x1901 then
 jn (
 if (0 : Int) ≤ x1901 ∧ x1901 < (t265.length : Int) then
 if (0 : Int) ≤ x2721 ∧ x2721 < (t265.length : Int) then
 if gt t265 x1901 = gt t265 x2721 then
 jn (Q13.l2 a0_3 x1901 x2721 x2720 0) (fun (x3952 : Option Q1) =>
 jn (Q13.l3 a0_1 t265 x1901 x2721 x3952 0) (fun (x4771 : Option Q1) =>
 some (.inl x4771)))
 else
 some (.inl x2720)
 else none
 else none) (fun (x3141 : Option Q1) =>
 nx (x3141, IntKind.i64.wrap (x2721 + 1)))
 else
 dn (.inl x2720)
noncomputable def Q13.l1 (a0_1 : List Bs) (a0_3 : List Q2) (t265 : (List Int)) (x1901 : Int) (x2720 : Option Q1) (x2721 : Int) : Option (((Option Q1)) ⊕ (((Option Q1) × Int) ⊕ (((Option Q1)) ⊕ (Bool)))) := iter (fun t_ : (Option Q1) × Int => Q13.l1b a0_1 a0_3 t265 x1901 t_.1 t_.2) (x2720, x2721)
noncomputable def Q13.l0b (a0_1 : List Bs) (a0_3 : List Q2) (t265 : (List Int)) (x1900 : Option Q1) (x1901 : Int) : Option (((Option Q1) × Int) ⊕ (((Option Q1)) ⊕ (Bool))) :=
 if x1901 < (t265.length : Int) then
 jn (Q13.l1 a0_1 a0_3 t265 x1901 x1900 0) (fun (x2923 : Option Q1) =>
 nx (x2923, IntKind.i64.wrap (x1901 + 1)))
 else
 dn (.inl x1900)
noncomputable def Q13.l0 (a0_1 : List Bs) (a0_3 : List Q2) (t265 : (List Int)) (x1900 : Option Q1) (x1901 : Int) : Option (((Option Q1)) ⊕ (Bool)) := iter (fun t_ : (Option Q1) × Int => Q13.l0b a0_1 a0_3 t265 t_.1 t_.2) (x1900, x1901)
noncomputable def Q13.f (a0_0 : Int) (a0_1 : List Bs) (a0_2 : List Q0) (a0_3 : List Q2) : Option Bool :=
 (Q87.f ).bind fun t259 =>
 (Q11.f a0_0 a0_1 a0_2 a0_3).bind fun t261 =>
 (Q27.f a0_0 a0_1 a0_2 a0_3).bind fun t265 =>
 jn (
 if t259 = true then
 some (.inl t261.isNone)
 else
 some (.inl true)) (fun (x472 : Bool) =>
 jn (
 if x472 = true then
 some (.inl true)
 else
 some (.inl (!(decide ((t265.length : Int) = a0_0))))) (fun (x677 : Bool) =>
 if x677 = true then
 jn (
 if t259 = true then
 some (.inl t261.isNone)
 else
 some (.inl false)) (fun (x883 : Bool) =>
 jn (
 if x883 = true then
 some (.inl (decide ((t265.length : Int) = 0)))
 else
 some (.inl false)) (fun (x1088 : Bool) =>
 some x1088))
 else
 jn (Q13.l0 a0_1 a0_3 t265 t261 0) (fun (x2103 : Option Q1) =>
 some true)))
theorem Q13.spec (R : Res) (Fr : List HProp) (A0_1 : Option Addr) (n0_1 : Nat) (c0_1 : Nat) (A0_2 : Option Addr) (n0_2 : Nat) (c0_2 : Nat) (A0_3 : Option Addr) (n0_3 : Nat) (c0_3 : Nat) (a0_0 : Int) (a0_1 : List Bs) (a0_2 : List Q0) (a0_3 : List Q2) (hr0_1 : RdS Fl.bs.rep R.heap A0_1 a0_1) (hn0_1 : a0_1.length = n0_1) (hc0_1 : n0_1 ≤ c0_1) (hr0_2 : RdS Q0.fl.rep R.heap A0_2 a0_2) (hn0_2 : a0_2.length = n0_2) (hc0_2 : n0_2 ≤ c0_2) (hr0_3 : RdS Q2.rep R.heap A0_3 a0_3) (hn0_3 : a0_3.length = n0_3) (hc0_3 : n0_3 ≤ c0_3) (hg0 : RdS (Fl.int .u8).rep R.heap (some ⟨0, 0, none⟩) Tryz.gtab0) {r : Bool} (j : Q13.f a0_0 a0_1 a0_2 a0_3 = some r) :
 Spec Tryz.prog 5 [.agg #[.int .i64 a0_0, .slice A0_1 n0_1 c0_1, .slice A0_2 n0_2 c0_2, .slice A0_3 n0_3 c0_3]] R (Fr) (fun v l' => v = .bool r ∧ Fr = l') := by
 subst hn0_1; subst hn0_2; subst hn0_3; refine Spec.of Tryz.func5 rfl rfl ?_; unfold Q13.f at j; have j := brun j; refine At.seq (At.region ?_); refine At.box rfl rfl (cs := [.int .i64 a0_0, .slice A0_1 a0_1.length c0_1, .slice A0_2 a0_2.length c0_2, .slice A0_3 a0_3.length c0_3]) rfl rfl (fun b258 => ?_); refine At.run 1 rfl (At.nil (At.thn (At.seq (At.region ?_)))); obtain ⟨t259, hc260, j⟩ := bbind j; refine At.call rfl Q87.callee rfl rfl rfl (Q87.spec _ _   hg0 hc260) ?_; rintro _ _ ⟨rfl, rfl⟩; refine At.run 1 rfl (At.nil (At.thn (At.seq (At.region (At.y (Y.load rfl rfl .z rfl rfl rfl) rfl rfl rfl ?_))))); obtain ⟨t261, hc262, j⟩ := bbind j; refine At.call rfl Q11.callee rfl rfl rfl (Q11.spec _ _ A0_1 a0_1.length c0_1 A0_2 a0_2.length c0_2 A0_3 a0_3.length c0_3 a0_0 a0_1 a0_2 a0_3 hr0_1 rfl hc0_1 hr0_2 rfl hc0_2 hr0_3 rfl hc0_3 hc262) ?_; rintro _ _ ⟨w263, rfl, rfl⟩; refine At.run 1 rfl (At.nil (At.thn (At.seq (At.region (At.y (Y.load rfl rfl (.s .z) rfl rfl rfl) rfl rfl rfl ?_))))); obtain ⟨t265, hc266, j⟩ := bbind j; refine At.call rfl Q27.callee rfl rfl rfl (Q27.spec _ _ A0_1 a0_1.length c0_1 A0_2 a0_2.length c0_2 A0_3 a0_3.length c0_3 a0_0 a0_1 a0_2 a0_3 hr0_1 rfl hc0_1 hr0_2 rfl hc0_2 hr0_3 rfl hc0_3 hg0 hc266) ?_; rintro _ _ ⟨w267, w268, w269, rfl, rfl, rfl⟩; refine At.run 1 rfl (At.nil (At.thn (At.seq (At.seq (At.region (At.run 3 rfl ?_)))))); obtain ⟨G473, hl474, hr475, j⟩ := bjoin j; refine At.joinO 3 (X := Bool) (fun x472 => [(1, .pointer (some ⟨b258, 0, none⟩)), (3, .bool t259), (4, optp w263), (5, .slice w268 t265.length w269), (27, .bool x472)]) (fun x472 => row (Fl.int .i64) 3 w268 t265.length w269 t265 :: optb Q1.ow 91 w263 t261 :: pt b258 (.cells [.int .i64 a0_0, .slice A0_1 a0_1.length c0_1, .slice A0_2 a0_2.length c0_2, .slice A0_3 a0_3.length c0_3].toArray 26) :: Fr) (fun x472 => G473 (.inl x472) = some r) ?_ (fun J476 => ?_)
 ·rintro x472 j; have j := (hl474 _).symm.trans j
  ·refine At.run 1 rfl ?_; obtain ⟨G678, hl679, hr680, j⟩ := bjoin j; refine At.joinO 6 (X := Bool) (fun x677 => [(1, .pointer (some ⟨b258, 0, none⟩)), (3, .bool t259), (4, optp w263), (5, .slice w268 t265.length w269), (34, .bool x677)]) (fun x677 => row (Fl.int .i64) 3 w268 t265.length w269 t265 :: optb Q1.ow 91 w263 t261 :: pt b258 (.cells [.int .i64 a0_0, .slice A0_1 a0_1.length c0_1, .slice A0_2 a0_2.length c0_2, .slice A0_3 a0_3.length c0_3].toArray 26) :: Fr) (fun x677 => G678 (.inl x677) = some r) ?_ (fun J681 => ?_)
   ·rintro x677 j; have j := (hl679 _).symm.trans j
    ·refine At.nil (At.thn ?_); rcases bite j with ⟨h682, j⟩ | ⟨h682, j⟩
     ··refine At.condT rfl h682 ?_
       refine At.seq (At.region (At.run 2 rfl ?_)); obtain ⟨G884, hl885, hr886, j⟩ := bjoin j; refine At.joinO 3 (X := Bool) (fun x883 => [(5, .slice w268 t265.length w269), (39, .bool x883)]) (fun x883 => row (Fl.int .i64) 3 w268 t265.length w269 t265 :: optb Q1.ow 91 w263 t261 :: pt b258 (.cells [.int .i64 a0_0, .slice A0_1 a0_1.length c0_1, .slice A0_2 a0_2.length c0_2, .slice A0_3 a0_3.length c0_3].toArray 26) :: Fr) (fun x883 => G884 (.inl x883) = some r) ?_ (fun J887 => ?_)
       ·rintro x883 j; have j := (hl885 _).symm.trans j
        ·refine At.run 1 rfl ?_; obtain ⟨G1089, hl1090, hr1091, j⟩ := bjoin j; refine At.joinO 4 (X := Bool) (fun x1088 => [(44, .bool x1088)]) (fun x1088 => row (Fl.int .i64) 3 w268 t265.length w269 t265 :: optb Q1.ow 91 w263 t261 :: pt b258 (.cells [.int .i64 a0_0, .slice A0_1 a0_1.length c0_1, .slice A0_2 a0_2.length c0_2, .slice A0_3 a0_3.length c0_3].toArray 26) :: Fr) (fun x1088 => G1089 (.inl x1088) = some r) ?_ (fun J1092 => ?_)
         ·rintro x1088 j; have j := (hl1090 _).symm.trans j
          ·refine At.run 1 rfl (At.nil (At.thn (At.ret (At.thr (At.drop .z (At.drop .z (At.drop .z ?_))))))); cases bret j; exact At.res (.inl rfl) rfl rfl ⟨rfl, rfl⟩
         ··rcases bite j with ⟨h1093, j⟩ | ⟨h1093, j⟩
           ··refine At.know (t := 40) rfl h1093 ?_
             refine At.run 4 rfl ?_; exact At.of (J1092 (decide ((t265.length : Int) = 0)) j) ⟨rfl, trivial⟩
           ··refine At.know (t := 40) rfl (bn h1093) ?_
             refine At.run 4 rfl ?_; exact At.of (J1092 false j) ⟨rfl, trivial⟩
       ··rcases bite j with ⟨h1094, j⟩ | ⟨h1094, j⟩
         ··refine At.know (t := 36) rfl h1094 ?_
           refine At.run 1 rfl ?_; refine At.y (Y.eqOpt (.s .z) rfl rfl rfl rfl) rfl rfl rfl ?_; refine At.run 1 rfl ?_; exact At.of (J887 t261.isNone j) ⟨rfl, rfl, trivial⟩
         ··refine At.know (t := 36) rfl (bn h1094) ?_
           refine At.run 3 rfl ?_; exact At.of (J887 false j) ⟨rfl, rfl, trivial⟩
     ··refine At.condF rfl (bn h682) ?_
       refine At.skip (At.thn (At.seq (At.seq (At.region (At.run 1 rfl (At.nil (At.thn ?_))))))); refine At.block ?_; obtain ⟨G2104, hl2105, hr2106, j⟩ := bjoin j; obtain ⟨o2107, hlo2108, ho2109⟩ := bsome j; clear j; unfold Q13.l0 at hlo2108; obtain ⟨m2110, hit2112⟩ := Q25.1 hlo2108; clear hlo2108; refine At.loopJ (X := (Option Q1) × Int × (Option Nat)) (Y := (Option Q1) × (Option Nat)) (e0 := 0) (fun s_ => [(1, .pointer (some ⟨b258, 0, none⟩)), (4, optp s_.2.2), (5, .slice w268 t265.length w269), (6, .int .i64 s_.2.1)]) (fun s_ => row (Fl.int .i64) 3 w268 t265.length w269 t265 :: optb Q1.ow 91 s_.2.2 s_.1 :: pt b258 (.cells [.int .i64 a0_0, .slice A0_1 a0_1.length c0_1, .slice A0_2 a0_2.length c0_2, .slice A0_3 a0_3.length c0_3].toArray 26) :: Fr) (fun m_ => fun s_ => iterN (fun t_ : (Option Q1) × Int => Q13.l0b a0_1 a0_3 t265 t_.1 t_.2) m_ (s_.1, s_.2.1) = some o2107) m2110 (t261, 0, w263) hit2112 (fun s_ => []) (fun s_ => row (Fl.int .i64) 3 w268 t265.length w269 t265 :: optb Q1.ow 91 s_.2 s_.1 :: pt b258 (.cells [.int .i64 a0_0, .slice A0_1 a0_1.length c0_1, .slice A0_2 a0_2.length c0_2, .slice A0_3 a0_3.length c0_3].toArray 26) :: Fr) (fun s_ => G2104 (.inl s_.1) = some r) (fun a w e hs => ⟨e.sub ⟨rfl, rfl, rfl, rfl, trivial⟩, (by exact hs)⟩) ?_ (fun J2114 => ?_)
       ·rintro ⟨x2103, w2102⟩ j; have j := (hl2105 _).symm.trans j
        ·refine At.ibx ?_; refine At.thn (At.seq (At.region (At.run 1 rfl (At.nil (At.thn (At.ret (At.drop .z ?_))))))); refine At.drop .z (At.drop .z ?_); cases bret j; exact At.res (.inl rfl) rfl rfl ⟨rfl, rfl⟩
       ·clear hit2112 m2110; rintro m2110 ⟨x1900, x1901, w1899⟩ hit2112; obtain ⟨m2111, f_, hlt2113, hf_, j⟩ := bit hit2112; clear hit2112; have j : (Q13.l0b a0_1 a0_3 t265 x1900 x1901).bind _ = some o2107 := j; unfold Q13.l0b at j
        ·refine At.seq (At.seq (At.region (At.run 4 rfl (At.nil (At.thn ?_))))); rcases bite j with ⟨h2115, j⟩ | ⟨h2115, j⟩
         ··refine At.condT rfl (decide_eq_true h2115) ?_
           refine At.skip (At.thn (At.seq ?_)); refine At.block ?_; refine At.seq (At.region (At.run 1 rfl (At.nil (At.thn ?_)))); refine At.block ?_; obtain ⟨G2924, hl2925, hr2926, j⟩ := bjoin j; obtain ⟨o2927, hlo2928, ho2929⟩ := bsome j; clear j; unfold Q13.l1 at hlo2928; obtain ⟨m2930, hit2932⟩ := Q25.1 hlo2928; clear hlo2928; refine At.loopJ (X := (Option Q1) × Int × (Option Nat)) (Y := (Option Q1) × (Option Nat)) (e0 := 2) (fun s_ => [(1, .pointer (some ⟨b258, 0, none⟩)), (4, optp s_.2.2), (5, .slice w268 t265.length w269), (6, .int .i64 x1901), (7, .int .i64 s_.2.1)]) (fun s_ => row (Fl.int .i64) 3 w268 t265.length w269 t265 :: optb Q1.ow 91 s_.2.2 s_.1 :: pt b258 (.cells [.int .i64 a0_0, .slice A0_1 a0_1.length c0_1, .slice A0_2 a0_2.length c0_2, .slice A0_3 a0_3.length c0_3].toArray 26) :: Fr) (fun m_ => fun s_ => iterN (fun t_ : (Option Q1) × Int => Q13.l1b a0_1 a0_3 t265 x1901 t_.1 t_.2) m_ (s_.1, s_.2.1) = some o2927) m2930 (x1900, 0, w1899) hit2932 (fun s_ => [(1, .pointer (some ⟨b258, 0, none⟩)), (4, optp s_.2), (5, .slice w268 t265.length w269), (6, .int .i64 x1901)]) (fun s_ => row (Fl.int .i64) 3 w268 t265.length w269 t265 :: optb Q1.ow 91 s_.2 s_.1 :: pt b258 (.cells [.int .i64 a0_0, .slice A0_1 a0_1.length c0_1, .slice A0_2 a0_2.length c0_2, .slice A0_3 a0_3.length c0_3].toArray 26) :: Fr) (fun s_ => G2924 (.inl s_.1) = some o2107) (fun a w e hs => ⟨e.sub ⟨rfl, rfl, rfl, rfl, rfl, trivial⟩, (by exact hs)⟩) ?_ (fun J2934 => ?_)
           ·rintro ⟨x2923, w2922⟩ j; have j := (hl2925 _).symm.trans j
            ·refine At.ibx ?_; refine At.ibn ?_; refine At.thn (At.region (At.run 3 rfl (At.nil ?_))); have j := bnx hf_ j; exact fun a w e hs => ⟨m2111, (x2923, IntKind.i64.wrap (x1901 + 1), w2922), hlt2113, j, e.sub ⟨rfl, rfl, rfl, rfl, trivial⟩, hs⟩
           ·clear hit2932 m2930; rintro m2930 ⟨x2720, x2721, w2719⟩ hit2932; obtain ⟨m2931, f_, hlt2933, hf_, j⟩ := bit hit2932; clear hit2932; have j : (Q13.l1b a0_1 a0_3 t265 x1901 x2720 x2721).bind _ = some o2927 := j; unfold Q13.l1b at j
            ·refine At.seq (At.seq (At.region (At.run 3 rfl (At.nil (At.thn ?_))))); rcases bite j with ⟨h2935, j⟩ | ⟨h2935, j⟩
             ··refine At.condT rfl (decide_eq_true h2935) ?_
               refine At.skip (At.thn (At.seq ?_)); obtain ⟨G2936, hl2937, hr2938, j⟩ := bjoin j; refine At.join (X := (Option Q1) × (Option Nat)) (fun s_ => [(1, .pointer (some ⟨b258, 0, none⟩)), (4, optp s_.2), (5, .slice w268 t265.length w269), (6, .int .i64 x1901), (7, .int .i64 x2721)]) (fun s_ => row (Fl.int .i64) 3 w268 t265.length w269 t265 :: optb Q1.ow 91 s_.2 s_.1 :: pt b258 (.cells [.int .i64 a0_0, .slice A0_1 a0_1.length c0_1, .slice A0_2 a0_2.length c0_2, .slice A0_3 a0_3.length c0_3].toArray 26) :: Fr) (fun s_ => G2936 (.inl s_.1) = some o2927) ?_ (fun J2939 => ?_)
               ·rintro ⟨x3141, w3140⟩ j; have j := (hl2937 _).symm.trans j
                ·refine At.region (At.run 3 rfl (At.nil ?_)); have j := bnx hf_ j; exact fun a w e hs => ⟨m2931, (x3141, IntKind.i64.wrap (x2721 + 1), w3140), hlt2933, j, e.sub ⟨rfl, rfl, rfl, rfl, rfl, trivial⟩, hs⟩
               ··refine At.block ?_
                 refine At.seq (At.seq ?_); refine At.quiet (by kernel_rfl) ?_; refine At.Quiet.run 2 rfl ?_; obtain ⟨h3142, j⟩ := bnone j; refine At.Quiet.y (Y.ix .z rfl rfl rfl rfl rfl rfl h3142.1 h3142.2) rfl rfl rfl ?_; refine At.Quiet.y (Y.ld .z (q := 0) rfl rfl h3142.1 h3142.2 rfl rfl rfl) rfl rfl rfl ?_; refine At.Quiet.run 2 rfl ?_; obtain ⟨h3143, j⟩ := bnone j; refine At.Quiet.y (Y.ix .z rfl rfl rfl rfl rfl rfl h3143.1 h3143.2) rfl rfl rfl ?_; refine At.Quiet.y (Y.ld .z (q := 0) rfl rfl h3143.1 h3143.2 rfl rfl rfl) rfl rfl rfl ?_; refine At.Quiet.run 1 rfl (At.Quiet.nil (At.thn ?_)); rcases bite j with ⟨h3144, j⟩ | ⟨h3144, j⟩
                 ··refine At.condF rfl (nf (decide_eq_true h3144)) ?_
                   refine At.skip (At.thn (At.seq (At.seq (At.region (At.run 1 rfl (At.nil (At.thn ?_))))))); refine At.block ?_; obtain ⟨G3953, hl3954, hr3955, j⟩ := bjoin j; obtain ⟨o3956, hlo3957, ho3958⟩ := bsome j; clear j; unfold Q13.l2 at hlo3957; obtain ⟨m3959, hit3961⟩ := Q25.1 hlo3957; clear hlo3957; refine At.loopJ (X := (Option Q1) × Int × (Option Nat)) (Y := (Option Q1) × (Option Nat)) (e0 := 4) (fun s_ => [(1, .pointer (some ⟨b258, 0, none⟩)), (4, optp s_.2.2), (5, .slice w268 t265.length w269), (6, .int .i64 x1901), (7, .int .i64 x2721), (8, .int .i64 s_.2.1)]) (fun s_ => row (Fl.int .i64) 3 w268 t265.length w269 t265 :: optb Q1.ow 91 s_.2.2 s_.1 :: pt b258 (.cells [.int .i64 a0_0, .slice A0_1 a0_1.length c0_1, .slice A0_2 a0_2.length c0_2, .slice A0_3 a0_3.length c0_3].toArray 26) :: Fr) (fun m_ => fun s_ => iterN (fun t_ : (Option Q1) × Int => Q13.l2b a0_3 x1901 x2721 t_.1 t_.2) m_ (s_.1, s_.2.1) = some o3956) m3959 (x2720, 0, w2719) hit3961 (fun s_ => [(1, .pointer (some ⟨b258, 0, none⟩)), (4, optp s_.2), (5, .slice w268 t265.length w269), (6, .int .i64 x1901), (7, .int .i64 x2721)]) (fun s_ => row (Fl.int .i64) 3 w268 t265.length w269 t265 :: optb Q1.ow 91 s_.2 s_.1 :: pt b258 (.cells [.int .i64 a0_0, .slice A0_1 a0_1.length c0_1, .slice A0_2 a0_2.length c0_2, .slice A0_3 a0_3.length c0_3].toArray 26) :: Fr) (fun s_ => G3953 (.inl s_.1) = some o2927) (fun a w e hs => ⟨e.sub ⟨rfl, rfl, rfl, rfl, rfl, rfl, trivial⟩, (by exact hs)⟩) ?_ (fun J3963 => ?_)
                   ·rintro ⟨x3952, w3951⟩ j; have j := (hl3954 _).symm.trans j
                    ·refine At.ibx ?_; refine At.thn (At.seq (At.region (At.run 1 rfl (At.nil (At.thn ?_))))); refine At.block ?_; obtain ⟨G4772, hl4773, hr4774, j⟩ := bjoin j; obtain ⟨o4775, hlo4776, ho4777⟩ := bsome j; clear j; unfold Q13.l3 at hlo4776; obtain ⟨m4778, hit4780⟩ := Q25.1 hlo4776; clear hlo4776; refine At.loopJ (X := (Option Q1) × Int × (Option Nat)) (Y := (Option Q1) × (Option Nat)) (e0 := 6) (fun s_ => [(1, .pointer (some ⟨b258, 0, none⟩)), (4, optp s_.2.2), (5, .slice w268 t265.length w269), (6, .int .i64 x1901), (7, .int .i64 x2721), (10, .int .i64 s_.2.1)]) (fun s_ => row (Fl.int .i64) 3 w268 t265.length w269 t265 :: optb Q1.ow 91 s_.2.2 s_.1 :: pt b258 (.cells [.int .i64 a0_0, .slice A0_1 a0_1.length c0_1, .slice A0_2 a0_2.length c0_2, .slice A0_3 a0_3.length c0_3].toArray 26) :: Fr) (fun m_ => fun s_ => iterN (fun t_ : (Option Q1) × Int => Q13.l3b a0_1 t265 x1901 x2721 t_.1 t_.2) m_ (s_.1, s_.2.1) = some o4775) m4778 (x3952, 0, w3951) hit4780 (fun s_ => [(1, .pointer (some ⟨b258, 0, none⟩)), (4, optp s_.2), (5, .slice w268 t265.length w269), (6, .int .i64 x1901), (7, .int .i64 x2721)]) (fun s_ => row (Fl.int .i64) 3 w268 t265.length w269 t265 :: optb Q1.ow 91 s_.2 s_.1 :: pt b258 (.cells [.int .i64 a0_0, .slice A0_1 a0_1.length c0_1, .slice A0_2 a0_2.length c0_2, .slice A0_3 a0_3.length c0_3].toArray 26) :: Fr) (fun s_ => G4772 (.inl s_.1) = some o2927) (fun a w e hs => ⟨e.sub ⟨rfl, rfl, rfl, rfl, rfl, rfl, trivial⟩, (by exact hs)⟩) ?_ (fun J4782 => ?_)
                     ·rintro ⟨x4771, w4770⟩ j; have j := (hl4773 _).symm.trans j
                      ·refine At.ibx ?_; refine At.ibn ?_; refine At.thn ?_; exact fun a w e hs => J2939 (x4771, w4770) j a w (e.sub ⟨rfl, rfl, rfl, rfl, rfl, trivial⟩) hs
                     ·clear hit4780 m4778; rintro m4778 ⟨x4568, x4569, w4567⟩ hit4780; obtain ⟨m4779, f_, hlt4781, hf_, j⟩ := bit hit4780; clear hit4780; have j : (Q13.l3b a0_1 t265 x1901 x2721 x4568 x4569).bind _ = some o4775 := j; unfold Q13.l3b at j
                      ·refine At.seq (At.seq (At.region (At.run 2 rfl (At.y (Y.load rfl rfl (.s (.s .z)) rfl rfl rfl) rfl rfl rfl (At.run 2 rfl (At.nil (At.thn ?_))))))); rcases bite j with ⟨h4783, j⟩ | ⟨h4783, j⟩
                       ··refine At.condT rfl (decide_eq_true h4783) ?_
                         refine At.skip (At.thn (At.seq ?_)); refine At.block ?_; refine At.seq (At.region (At.run 3 rfl (At.y (Y.load rfl rfl (.s (.s .z)) rfl rfl rfl) rfl rfl rfl (At.run 1 rfl ?_)))); obtain ⟨h4784, j⟩ := bnone j; refine At.y (Y.ixRd hr0_1 rfl rfl rfl rfl rfl rfl rfl h4784.1 h4784.2) rfl rfl rfl (At.y (Y.ldFl hr0_1 rfl (q := 0) rfl rfl h4784.1 h4784.2 rfl rfl rfl) rfl rfl rfl ?_); obtain ⟨h4785, j⟩ := bnone j; refine At.optOpen (.s .z) h4785 (fun b4786 hb4787 cs4788 => ?_); have hq4789 := j; subst hb4787; have j := hq4789; refine At.ownPair (T := Ow.fl (Fl.int .i64)) (U := ((Ow.mp Fl.bs.ov Q4.fl.av).pair (Ow.mp Q8.fl.av Q4.fl.av))) (x := ((x4568.getD default).states, (x4568.getD default).holds, (x4568.getD default).next)) (.s .z) ?_; rintro cs4790 cs4791 rfl; refine At.ownFl (F := (Fl.int .i64)) (x := (x4568.getD default).states) .z ?_; rintro rfl; refine At.ownPair (T := Ow.mp Fl.bs.ov Q4.fl.av) (U := (Ow.mp Q8.fl.av Q4.fl.av)) (x := ((x4568.getD default).holds, (x4568.getD default).next)) .z ?_; rintro cs4792 cs4793 rfl; refine At.ownMp (kv := Fl.bs.ov) (vv := Q4.fl.av) (kvs := (x4568.getD default).holds) .z ?_; rintro b4794 rfl; refine At.ownMp (kv := Q8.fl.av) (vv := Q4.fl.av) (kvs := (x4568.getD default).next) (.s .z) ?_; rintro b4795 rfl; refine At.f1 (At.f2 ?_); obtain ⟨t4796, hc4797, j⟩ := bbind j; refine At.call rfl Q61.callee rfl rfl rfl (Q61.spec _ _ b4786 b4794 b4795 ((x4568.getD default).states) ((x4568.getD default).holds) ((x4568.getD default).next) x1901 (gt a0_1 x4569)  hc4797) ?_; rintro _ _ ⟨rfl, rfl⟩; obtain ⟨t4798, hc4799, j⟩ := bbind j; refine At.call rfl Q10.callee rfl rfl rfl (Q10.spec _ _  t4796.1 t4796.2.1 t4796.2.2.1 t4796.2.2.2 hg0 hc4799) ?_; rintro _ _ ⟨w4800, w4801, w4802, rfl, rfl, rfl⟩; refine At.run 1 rfl (At.nil (At.thn (At.seq (At.region (At.run 3 rfl ?_))))); refine At.y (Y.load rfl rfl (.s (.s (.s (.s (.s .z))))) rfl rfl rfl) rfl rfl rfl ?_; refine At.run 1 rfl (At.y (Y.ixRd hr0_1 rfl rfl rfl rfl rfl rfl rfl h4784.1 h4784.2) rfl rfl rfl (At.y (Y.ldFl hr0_1 rfl (q := 0) rfl rfl h4784.1 h4784.2 rfl rfl rfl) rfl rfl rfl (At.f3 (At.f3 (At.f3 ?_))))); obtain ⟨t4805, hc4806, j⟩ := bbind j; refine At.call rfl Q61.callee rfl rfl rfl (Q61.spec _ _ b4786 b4794 b4795 ((x4568.getD default).states) ((x4568.getD default).holds) ((x4568.getD default).next) x2721 (gt a0_1 x4569)  hc4806) ?_; rintro _ _ ⟨rfl, rfl⟩; obtain ⟨t4807, hc4808, j⟩ := bbind j; refine At.call rfl Q10.callee rfl rfl rfl (Q10.spec _ _  t4805.1 t4805.2.1 t4805.2.2.1 t4805.2.2.2 hg0 hc4808) ?_; rintro _ _ ⟨w4809, w4810, w4811, rfl, rfl, rfl⟩; refine At.run 1 rfl (At.nil (At.thn (At.seq (At.region (At.run 1 rfl (At.nil (At.thn ?_))))))); refine At.block ?_; refine At.rounds 3 ?_; refine At.round ?_; refine At.seq (At.seq (At.region (At.run 2 rfl (At.nil (At.thn ?_))))); refine At.condT rfl rfl ?_; refine At.skip (At.thn (At.seq ?_)); refine At.block ?_; refine At.seq (At.seq (At.region (At.run 1 rfl (At.nil (At.thn ?_))))); refine At.block ?_; obtain ⟨G5616, hl5617, hr5618, j⟩ := bjoin j; obtain ⟨o5619, hlo5620, ho5621⟩ := bsome j; clear j; unfold Q13.l4 at hlo5620; obtain ⟨m5622, hit5624⟩ := Q25.1 hlo5620; clear hlo5620; refine At.loopJ (X := Int) (Y := Unit) (e0 := 10) (fun x5415 => [(1, .pointer (some ⟨b258, 0, none⟩)), (4, .pointer (some ⟨b4786, 0, none⟩)), (5, .slice w268 t265.length w269), (6, .int .i64 x1901), (7, .int .i64 x2721), (10, .int .i64 x4569), (11, .slice w4801 t4798.length w4802), (12, .slice w4810 t4807.length w4811), (13, .int .i64 0), (14, .int .i64 x5415)]) (fun x5415 => row (Fl.int .i64) 3 w4810 t4807.length w4811 t4807 :: pt b4786 (.cells [.int .i64 ((x4568.getD default).states), .map (some b4794), .map (some b4795)].toArray 91) :: mapo Fl.bs.ov Q4.fl.av b4794 ((x4568.getD default).holds) :: mapo Q8.fl.av Q4.fl.av b4795 ((x4568.getD default).next) :: row (Fl.int .i64) 3 w4801 t4798.length w4802 t4798 :: row (Fl.int .i64) 3 w268 t265.length w269 t265 :: pt b258 (.cells [.int .i64 a0_0, .slice A0_1 a0_1.length c0_1, .slice A0_2 a0_2.length c0_2, .slice A0_3 a0_3.length c0_3].toArray 26) :: Fr) (fun m_ => fun x5415 => iterN (fun t_ : Int => Q13.l4b t265 t4798 t4807 t_) m_ x5415 = some o5619) m5622 0 hit5624 (fun _ => [(1, .pointer (some ⟨b258, 0, none⟩)), (4, .pointer (some ⟨b4786, 0, none⟩)), (5, .slice w268 t265.length w269), (6, .int .i64 x1901), (7, .int .i64 x2721), (10, .int .i64 x4569), (11, .slice w4801 t4798.length w4802), (12, .slice w4810 t4807.length w4811), (13, .int .i64 0)]) (fun _ => row (Fl.int .i64) 3 w4810 t4807.length w4811 t4807 :: pt b4786 (.cells [.int .i64 ((x4568.getD default).states), .map (some b4794), .map (some b4795)].toArray 91) :: mapo Fl.bs.ov Q4.fl.av b4794 ((x4568.getD default).holds) :: mapo Q8.fl.av Q4.fl.av b4795 ((x4568.getD default).next) :: row (Fl.int .i64) 3 w4801 t4798.length w4802 t4798 :: row (Fl.int .i64) 3 w268 t265.length w269 t265 :: pt b258 (.cells [.int .i64 a0_0, .slice A0_1 a0_1.length c0_1, .slice A0_2 a0_2.length c0_2, .slice A0_3 a0_3.length c0_3].toArray 26) :: Fr) (fun _ => G5616 (.inl ()) = some o4775) (fun a w e hs => ⟨e.sub ⟨rfl, rfl, rfl, rfl, rfl, rfl, rfl, rfl, rfl, rfl, trivial⟩, (by exact hs)⟩) ?_ (fun J5626 => ?_)
                         ·rintro _ j; have j := (hl5617 _).symm.trans j
                          ·refine At.ibx ?_; refine At.thn (At.region (At.run 4 rfl (At.nil ?_))); refine At.ibn ?_; refine At.thn (At.region (At.run 3 rfl (At.nil (At.thn ?_)))); refine At.round ?_; refine At.seq (At.seq (At.region (At.run 2 rfl (At.nil (At.thn ?_))))); refine At.condT rfl rfl ?_; refine At.skip (At.thn (At.seq ?_)); refine At.block ?_; refine At.seq (At.seq (At.region (At.run 1 rfl (At.nil (At.thn ?_))))); refine At.block ?_; obtain ⟨G6429, hl6430, hr6431, j⟩ := bjoin j; obtain ⟨o6432, hlo6433, ho6434⟩ := bsome j; clear j; unfold Q13.l5 at hlo6433; obtain ⟨m6435, hit6437⟩ := Q25.1 hlo6433; clear hlo6433; refine At.loopJ (X := Int) (Y := Unit) (e0 := 10) (fun x6228 => [(1, .pointer (some ⟨b258, 0, none⟩)), (4, .pointer (some ⟨b4786, 0, none⟩)), (5, .slice w268 t265.length w269), (6, .int .i64 x1901), (7, .int .i64 x2721), (10, .int .i64 x4569), (11, .slice w4810 t4807.length w4811), (12, .slice w4801 t4798.length w4802), (13, .int .i64 1), (14, .int .i64 x6228)]) (fun x6228 => row (Fl.int .i64) 3 w4810 t4807.length w4811 t4807 :: pt b4786 (.cells [.int .i64 ((x4568.getD default).states), .map (some b4794), .map (some b4795)].toArray 91) :: mapo Fl.bs.ov Q4.fl.av b4794 ((x4568.getD default).holds) :: mapo Q8.fl.av Q4.fl.av b4795 ((x4568.getD default).next) :: row (Fl.int .i64) 3 w4801 t4798.length w4802 t4798 :: row (Fl.int .i64) 3 w268 t265.length w269 t265 :: pt b258 (.cells [.int .i64 a0_0, .slice A0_1 a0_1.length c0_1, .slice A0_2 a0_2.length c0_2, .slice A0_3 a0_3.length c0_3].toArray 26) :: Fr) (fun m_ => fun x6228 => iterN (fun t_ : Int => Q13.l5b t265 t4798 t4807 t_) m_ x6228 = some o6432) m6435 0 hit6437 (fun _ => [(1, .pointer (some ⟨b258, 0, none⟩)), (4, .pointer (some ⟨b4786, 0, none⟩)), (5, .slice w268 t265.length w269), (6, .int .i64 x1901), (7, .int .i64 x2721), (10, .int .i64 x4569), (11, .slice w4810 t4807.length w4811), (12, .slice w4801 t4798.length w4802), (13, .int .i64 1)]) (fun _ => row (Fl.int .i64) 3 w4810 t4807.length w4811 t4807 :: pt b4786 (.cells [.int .i64 ((x4568.getD default).states), .map (some b4794), .map (some b4795)].toArray 91) :: mapo Fl.bs.ov Q4.fl.av b4794 ((x4568.getD default).holds) :: mapo Q8.fl.av Q4.fl.av b4795 ((x4568.getD default).next) :: row (Fl.int .i64) 3 w4801 t4798.length w4802 t4798 :: row (Fl.int .i64) 3 w268 t265.length w269 t265 :: pt b258 (.cells [.int .i64 a0_0, .slice A0_1 a0_1.length c0_1, .slice A0_2 a0_2.length c0_2, .slice A0_3 a0_3.length c0_3].toArray 26) :: Fr) (fun _ => G6429 (.inl ()) = some o4775) (fun a w e hs => ⟨e.sub ⟨rfl, rfl, rfl, rfl, rfl, rfl, rfl, rfl, rfl, rfl, trivial⟩, (by exact hs)⟩) ?_ (fun J6439 => ?_)
                           ·rintro _ j; have j := (hl6430 _).symm.trans j
                            ·refine At.ibx ?_; refine At.thn (At.region (At.run 4 rfl (At.nil ?_))); refine At.ibn ?_; refine At.thn (At.region (At.run 3 rfl (At.nil (At.thn ?_)))); refine At.round ?_; refine At.seq (At.seq (At.region (At.run 2 rfl (At.nil (At.thn ?_))))); refine At.condF rfl rfl ?_; refine At.exit ?_; refine At.the ?_; refine At.the ?_; refine At.ibx ?_; refine At.ibn ?_; refine At.thn (At.region (At.run 3 rfl (At.nil (At.f3 (At.f3 (At.f3 ?_)))))); refine At.optSome (x := (⟨((x4568.getD default).states), (x4568.getD default).holds, (x4568.getD default).next⟩ : Q1)) Q1.ent ?_; refine At.drop (.s .z) (At.drop (.s .z) (At.f2 (At.f1 (At.f2 ?_)))); have j := bnx hf_ j; exact fun a w e hs => ⟨m4779, ((some (⟨((x4568.getD default).states), (x4568.getD default).holds, (x4568.getD default).next⟩ : Q1)), IntKind.i64.wrap (x4569 + 1), (some b4786)), hlt4781, j, e.sub ⟨rfl, rfl, rfl, rfl, rfl, rfl, trivial⟩, hs⟩
                           ·clear hit6437 m6435; rintro m6435 x6228 hit6437; obtain ⟨m6436, f_, hlt6438, hf_, j⟩ := bit hit6437; clear hit6437; have j : (Q13.l5b t265 t4798 t4807 x6228).bind _ = some o6432 := j; unfold Q13.l5b at j
                            ·refine At.seq (At.seq (At.region (At.run 4 rfl (At.nil (At.thn ?_))))); rcases bite j with ⟨h6440, j⟩ | ⟨h6440, j⟩
                             ··refine At.condT rfl (decide_eq_true h6440) ?_
                               refine At.skip (At.thn (At.seq ?_)); refine At.block ?_; refine At.seq (At.region (At.run 1 rfl (At.nil (At.thn (At.seq (At.seq (At.region ?_))))))); refine At.run 1 rfl (At.nil (At.thn ?_)); refine At.block ?_; obtain ⟨G7246, hl7247, hr7248, j⟩ := bjoin j; obtain ⟨o7249, hlo7250, ho7251⟩ := bsome j; clear j; unfold Q13.l6 at hlo7250; obtain ⟨m7252, hit7254⟩ := Q25.1 hlo7250; clear hlo7250; refine At.loopJ (X := Bool × Int) (Y := Bool) (e0 := 12) (fun s_ => [(1, .pointer (some ⟨b258, 0, none⟩)), (4, .pointer (some ⟨b4786, 0, none⟩)), (5, .slice w268 t265.length w269), (6, .int .i64 x1901), (7, .int .i64 x2721), (10, .int .i64 x4569), (11, .slice w4810 t4807.length w4811), (12, .slice w4801 t4798.length w4802), (13, .int .i64 1), (14, .int .i64 x6228), (15, .bool s_.1), (16, .int .i64 s_.2)]) (fun s_ => row (Fl.int .i64) 3 w4810 t4807.length w4811 t4807 :: pt b4786 (.cells [.int .i64 ((x4568.getD default).states), .map (some b4794), .map (some b4795)].toArray 91) :: mapo Fl.bs.ov Q4.fl.av b4794 ((x4568.getD default).holds) :: mapo Q8.fl.av Q4.fl.av b4795 ((x4568.getD default).next) :: row (Fl.int .i64) 3 w4801 t4798.length w4802 t4798 :: row (Fl.int .i64) 3 w268 t265.length w269 t265 :: pt b258 (.cells [.int .i64 a0_0, .slice A0_1 a0_1.length c0_1, .slice A0_2 a0_2.length c0_2, .slice A0_3 a0_3.length c0_3].toArray 26) :: Fr) (fun m_ => fun s_ => iterN (fun t_ : Bool × Int => Q13.l6b t265 t4798 t4807 x6228 t_.1 t_.2) m_ (s_.1, s_.2) = some o7249) m7252 (false, 0) hit7254 (fun x7245 => [(1, .pointer (some ⟨b258, 0, none⟩)), (4, .pointer (some ⟨b4786, 0, none⟩)), (5, .slice w268 t265.length w269), (6, .int .i64 x1901), (7, .int .i64 x2721), (10, .int .i64 x4569), (11, .slice w4810 t4807.length w4811), (12, .slice w4801 t4798.length w4802), (13, .int .i64 1), (14, .int .i64 x6228), (15, .bool x7245)]) (fun x7245 => row (Fl.int .i64) 3 w4810 t4807.length w4811 t4807 :: pt b4786 (.cells [.int .i64 ((x4568.getD default).states), .map (some b4794), .map (some b4795)].toArray 91) :: mapo Fl.bs.ov Q4.fl.av b4794 ((x4568.getD default).holds) :: mapo Q8.fl.av Q4.fl.av b4795 ((x4568.getD default).next) :: row (Fl.int .i64) 3 w4801 t4798.length w4802 t4798 :: row (Fl.int .i64) 3 w268 t265.length w269 t265 :: pt b258 (.cells [.int .i64 a0_0, .slice A0_1 a0_1.length c0_1, .slice A0_2 a0_2.length c0_2, .slice A0_3 a0_3.length c0_3].toArray 26) :: Fr) (fun x7245 => G7246 (.inl x7245) = some o6432) (fun a w e hs => ⟨e.sub ⟨rfl, rfl, rfl, rfl, rfl, rfl, rfl, rfl, rfl, rfl, rfl, rfl, trivial⟩, (by exact hs)⟩) ?_ (fun J7256 => ?_)
                               ·rintro x7245 j; have j := (hl7247 _).symm.trans j
                                ·refine At.ibx ?_; refine At.thn (At.seq (At.region (At.run 2 rfl (At.nil (At.thn ?_))))); rcases bite j with ⟨h7257, j⟩ | ⟨h7257, j⟩
                                 ··refine At.condF rfl (nf h7257) ?_
                                   refine At.skip ?_; refine At.ibn ?_; refine At.thn (At.region (At.run 3 rfl (At.nil ?_))); have j := bnx hf_ j; exact fun a w e hs => ⟨m6436, (IntKind.i64.wrap (x6228 + 1)), hlt6438, j, e.sub ⟨rfl, rfl, rfl, rfl, rfl, rfl, rfl, rfl, rfl, rfl, trivial⟩, hs⟩
                                 ··refine At.condT rfl (nt (bn h7257)) ?_
                                   refine At.seq (At.region (At.run 1 rfl (At.nil (At.thn (At.ret ?_))))); refine At.ibr ?_; refine At.thr ?_; have j := bupL hr6431 ho6434 j; refine At.thr ?_; refine At.ibr ?_; refine At.thr ?_; refine At.ibr ?_; refine At.thr (At.thr ?_); refine At.ibr ?_; refine At.ibr ?_; refine At.thr ?_; have j := bupL hr4774 ho4777 j; refine At.thr ?_; refine At.ibr ?_; refine At.ibr ?_; have j := bup hr2938 j; refine At.thr ?_; have j := bupL hr2926 ho2929 j; refine At.thr ?_; refine At.ibr ?_; refine At.ibr ?_; refine At.thr ?_; have j := bupL hr2106 ho2109 j; refine At.thr ?_; refine At.ibr ?_; refine At.thr (At.drop .z (At.drop .z (At.drop .z (At.drop .z (At.drop .z (At.drop .z (At.drop .z ?_))))))); cases bret j; exact At.res (.inl rfl) rfl rfl ⟨rfl, rfl⟩
                               ·clear hit7254 m7252; rintro m7252 ⟨x7043, x7044⟩ hit7254; obtain ⟨m7253, f_, hlt7255, hf_, j⟩ := bit hit7254; clear hit7254; have j : (Q13.l6b t265 t4798 t4807 x6228 x7043 x7044).bind _ = some o7249 := j; unfold Q13.l6b at j
                                ·refine At.seq (At.seq (At.region (At.run 4 rfl (At.nil (At.thn ?_))))); rcases bite j with ⟨h7258, j⟩ | ⟨h7258, j⟩
                                 ··refine At.condT rfl (decide_eq_true h7258) ?_
                                   refine At.skip (At.thn (At.seq ?_)); refine At.block ?_; refine At.quiet (by kernel_rfl) ?_; refine At.Quiet.run 2 rfl ?_; obtain ⟨G7460, hl7461, hr7462, j⟩ := bjoin j; refine At.Quiet.joinO 16 (X := Bool) (fun x7459 => [(1, .pointer (some ⟨b258, 0, none⟩)), (4, .pointer (some ⟨b4786, 0, none⟩)), (5, .slice w268 t265.length w269), (6, .int .i64 x1901), (7, .int .i64 x2721), (10, .int .i64 x4569), (11, .slice w4810 t4807.length w4811), (12, .slice w4801 t4798.length w4802), (13, .int .i64 1), (14, .int .i64 x6228), (16, .int .i64 x7044), (145, .bool x7459)]) (fun x7459 => row (Fl.int .i64) 3 w4810 t4807.length w4811 t4807 :: pt b4786 (.cells [.int .i64 ((x4568.getD default).states), .map (some b4794), .map (some b4795)].toArray 91) :: mapo Fl.bs.ov Q4.fl.av b4794 ((x4568.getD default).holds) :: mapo Q8.fl.av Q4.fl.av b4795 ((x4568.getD default).next) :: row (Fl.int .i64) 3 w4801 t4798.length w4802 t4798 :: row (Fl.int .i64) 3 w268 t265.length w269 t265 :: pt b258 (.cells [.int .i64 a0_0, .slice A0_1 a0_1.length c0_1, .slice A0_2 a0_2.length c0_2, .slice A0_3 a0_3.length c0_3].toArray 26) :: Fr) (fun x7459 => G7460 (.inl x7459) = some o7249) ?_ (fun J7463 => ?_)
                                   ·rintro x7459 j; have j := (hl7461 _).symm.trans j
                                    ·refine At.Quiet.run 1 rfl (At.Quiet.nil ?_); refine At.ibn ?_; refine At.thn (At.region (At.run 3 rfl (At.nil ?_))); have j := bnx hf_ j; exact fun a w e hs => ⟨m7253, (x7459, IntKind.i64.wrap (x7044 + 1)), hlt7255, j, e.sub ⟨rfl, rfl, rfl, rfl, rfl, rfl, rfl, rfl, rfl, rfl, rfl, rfl, trivial⟩, hs⟩
                                   ··rcases bite j with ⟨h7464, j⟩ | ⟨h7464, j⟩
                                     ··refine At.Quiet.know (t := 129) rfl h7464 ?_
                                       refine At.Quiet.run 16 rfl ?_; exact At.Quiet.of (J7463 true j) ⟨rfl, rfl, rfl, rfl, rfl, rfl, rfl, rfl, rfl, rfl, rfl, rfl, trivial⟩
                                     ··refine At.Quiet.know (t := 129) rfl (bn h7464) ?_
                                       refine At.Quiet.run 3 rfl ?_; obtain ⟨h7465, j⟩ := bnone j; refine At.Quiet.y (Y.ix .z rfl rfl rfl rfl rfl rfl h7465.1 h7465.2) rfl rfl rfl ?_; refine At.Quiet.y (Y.ld .z (q := 0) rfl rfl h7465.1 h7465.2 rfl rfl rfl) rfl rfl rfl ?_; obtain ⟨h7466, j⟩ := bnone j; refine At.Quiet.y (Y.ix (.s (.s (.s (.s (.s .z))))) rfl rfl rfl rfl rfl rfl h7466.1 h7466.2) rfl rfl rfl ?_; refine At.Quiet.y (Y.ld (.s (.s (.s (.s (.s .z))))) (q := 0) rfl rfl h7466.1 h7466.2 rfl rfl rfl) rfl rfl rfl ?_; refine At.Quiet.run 3 rfl ?_; obtain ⟨h7467, j⟩ := bnone j; refine At.Quiet.y (Y.ix (.s (.s (.s (.s .z)))) rfl rfl rfl rfl rfl rfl h7467.1 h7467.2) rfl rfl rfl ?_; refine At.Quiet.y (Y.ld (.s (.s (.s (.s .z)))) (q := 0) rfl rfl h7467.1 h7467.2 rfl rfl rfl) rfl rfl rfl ?_; obtain ⟨h7468, j⟩ := bnone j; refine At.Quiet.y (Y.ix (.s (.s (.s (.s (.s .z))))) rfl rfl rfl rfl rfl rfl h7468.1 h7468.2) rfl rfl rfl ?_; refine At.Quiet.y (Y.ld (.s (.s (.s (.s (.s .z))))) (q := 0) rfl rfl h7468.1 h7468.2 rfl rfl rfl) rfl rfl rfl ?_; refine At.Quiet.run 2 rfl ?_; exact At.Quiet.of (J7463 (decide (gt t265 (gt t4807 x6228) = gt t265 (gt t4798 x7044))) j) ⟨rfl, rfl, rfl, rfl, rfl, rfl, rfl, rfl, rfl, rfl, rfl, rfl, trivial⟩
                                 ··refine At.condF rfl (decide_eq_false h7258) ?_
                                   refine At.exit ?_; refine At.the ?_; refine At.the ?_; exact fun a w e hs => J7256 x7043 (bdn j ho7251) a w (e.sub ⟨rfl, rfl, rfl, rfl, rfl, rfl, rfl, rfl, rfl, rfl, rfl, trivial⟩) hs
                             ··refine At.condF rfl (decide_eq_false h6440) ?_
                               refine At.exit ?_; refine At.the ?_; refine At.the ?_; exact fun a w e hs => J6439 () (bdn j ho6434) a w (e.sub ⟨rfl, rfl, rfl, rfl, rfl, rfl, rfl, rfl, rfl, trivial⟩) hs
                         ·clear hit5624 m5622; rintro m5622 x5415 hit5624; obtain ⟨m5623, f_, hlt5625, hf_, j⟩ := bit hit5624; clear hit5624; have j : (Q13.l4b t265 t4798 t4807 x5415).bind _ = some o5619 := j; unfold Q13.l4b at j
                          ·refine At.seq (At.seq (At.region (At.run 4 rfl (At.nil (At.thn ?_))))); rcases bite j with ⟨h7469, j⟩ | ⟨h7469, j⟩
                           ··refine At.condT rfl (decide_eq_true h7469) ?_
                             refine At.skip (At.thn (At.seq ?_)); refine At.block ?_; refine At.seq (At.region (At.run 1 rfl (At.nil (At.thn (At.seq (At.seq (At.region ?_))))))); refine At.run 1 rfl (At.nil (At.thn ?_)); refine At.block ?_; obtain ⟨G8275, hl8276, hr8277, j⟩ := bjoin j; obtain ⟨o8278, hlo8279, ho8280⟩ := bsome j; clear j; unfold Q13.l7 at hlo8279; obtain ⟨m8281, hit8283⟩ := Q25.1 hlo8279; clear hlo8279; refine At.loopJ (X := Bool × Int) (Y := Bool) (e0 := 12) (fun s_ => [(1, .pointer (some ⟨b258, 0, none⟩)), (4, .pointer (some ⟨b4786, 0, none⟩)), (5, .slice w268 t265.length w269), (6, .int .i64 x1901), (7, .int .i64 x2721), (10, .int .i64 x4569), (11, .slice w4801 t4798.length w4802), (12, .slice w4810 t4807.length w4811), (13, .int .i64 0), (14, .int .i64 x5415), (15, .bool s_.1), (16, .int .i64 s_.2)]) (fun s_ => row (Fl.int .i64) 3 w4810 t4807.length w4811 t4807 :: pt b4786 (.cells [.int .i64 ((x4568.getD default).states), .map (some b4794), .map (some b4795)].toArray 91) :: mapo Fl.bs.ov Q4.fl.av b4794 ((x4568.getD default).holds) :: mapo Q8.fl.av Q4.fl.av b4795 ((x4568.getD default).next) :: row (Fl.int .i64) 3 w4801 t4798.length w4802 t4798 :: row (Fl.int .i64) 3 w268 t265.length w269 t265 :: pt b258 (.cells [.int .i64 a0_0, .slice A0_1 a0_1.length c0_1, .slice A0_2 a0_2.length c0_2, .slice A0_3 a0_3.length c0_3].toArray 26) :: Fr) (fun m_ => fun s_ => iterN (fun t_ : Bool × Int => Q13.l7b t265 t4798 t4807 x5415 t_.1 t_.2) m_ (s_.1, s_.2) = some o8278) m8281 (false, 0) hit8283 (fun x8274 => [(1, .pointer (some ⟨b258, 0, none⟩)), (4, .pointer (some ⟨b4786, 0, none⟩)), (5, .slice w268 t265.length w269), (6, .int .i64 x1901), (7, .int .i64 x2721), (10, .int .i64 x4569), (11, .slice w4801 t4798.length w4802), (12, .slice w4810 t4807.length w4811), (13, .int .i64 0), (14, .int .i64 x5415), (15, .bool x8274)]) (fun x8274 => row (Fl.int .i64) 3 w4810 t4807.length w4811 t4807 :: pt b4786 (.cells [.int .i64 ((x4568.getD default).states), .map (some b4794), .map (some b4795)].toArray 91) :: mapo Fl.bs.ov Q4.fl.av b4794 ((x4568.getD default).holds) :: mapo Q8.fl.av Q4.fl.av b4795 ((x4568.getD default).next) :: row (Fl.int .i64) 3 w4801 t4798.length w4802 t4798 :: row (Fl.int .i64) 3 w268 t265.length w269 t265 :: pt b258 (.cells [.int .i64 a0_0, .slice A0_1 a0_1.length c0_1, .slice A0_2 a0_2.length c0_2, .slice A0_3 a0_3.length c0_3].toArray 26) :: Fr) (fun x8274 => G8275 (.inl x8274) = some o5619) (fun a w e hs => ⟨e.sub ⟨rfl, rfl, rfl, rfl, rfl, rfl, rfl, rfl, rfl, rfl, rfl, rfl, trivial⟩, (by exact hs)⟩) ?_ (fun J8285 => ?_)
                             ·rintro x8274 j; have j := (hl8276 _).symm.trans j
                              ·refine At.ibx ?_; refine At.thn (At.seq (At.region (At.run 2 rfl (At.nil (At.thn ?_))))); rcases bite j with ⟨h8286, j⟩ | ⟨h8286, j⟩
                               ··refine At.condF rfl (nf h8286) ?_
                                 refine At.skip ?_; refine At.ibn ?_; refine At.thn (At.region (At.run 3 rfl (At.nil ?_))); have j := bnx hf_ j; exact fun a w e hs => ⟨m5623, (IntKind.i64.wrap (x5415 + 1)), hlt5625, j, e.sub ⟨rfl, rfl, rfl, rfl, rfl, rfl, rfl, rfl, rfl, rfl, trivial⟩, hs⟩
                               ··refine At.condT rfl (nt (bn h8286)) ?_
                                 refine At.seq (At.region (At.run 1 rfl (At.nil (At.thn (At.ret ?_))))); refine At.ibr ?_; refine At.thr ?_; have j := bupL hr5618 ho5621 j; refine At.thr ?_; refine At.ibr ?_; refine At.thr ?_; refine At.ibr ?_; refine At.thr (At.thr ?_); refine At.ibr ?_; refine At.ibr ?_; refine At.thr ?_; have j := bupL hr4774 ho4777 j; refine At.thr ?_; refine At.ibr ?_; refine At.ibr ?_; have j := bup hr2938 j; refine At.thr ?_; have j := bupL hr2926 ho2929 j; refine At.thr ?_; refine At.ibr ?_; refine At.ibr ?_; refine At.thr ?_; have j := bupL hr2106 ho2109 j; refine At.thr ?_; refine At.ibr ?_; refine At.thr (At.drop .z (At.drop .z (At.drop .z (At.drop .z (At.drop .z (At.drop .z (At.drop .z ?_))))))); cases bret j; exact At.res (.inl rfl) rfl rfl ⟨rfl, rfl⟩
                             ·clear hit8283 m8281; rintro m8281 ⟨x8072, x8073⟩ hit8283; obtain ⟨m8282, f_, hlt8284, hf_, j⟩ := bit hit8283; clear hit8283; have j : (Q13.l7b t265 t4798 t4807 x5415 x8072 x8073).bind _ = some o8278 := j; unfold Q13.l7b at j
                              ·refine At.seq (At.seq (At.region (At.run 4 rfl (At.nil (At.thn ?_))))); rcases bite j with ⟨h8287, j⟩ | ⟨h8287, j⟩
                               ··refine At.condT rfl (decide_eq_true h8287) ?_
                                 refine At.skip (At.thn (At.seq ?_)); refine At.block ?_; refine At.quiet (by kernel_rfl) ?_; refine At.Quiet.run 2 rfl ?_; obtain ⟨G8489, hl8490, hr8491, j⟩ := bjoin j; refine At.Quiet.joinO 16 (X := Bool) (fun x8488 => [(1, .pointer (some ⟨b258, 0, none⟩)), (4, .pointer (some ⟨b4786, 0, none⟩)), (5, .slice w268 t265.length w269), (6, .int .i64 x1901), (7, .int .i64 x2721), (10, .int .i64 x4569), (11, .slice w4801 t4798.length w4802), (12, .slice w4810 t4807.length w4811), (13, .int .i64 0), (14, .int .i64 x5415), (16, .int .i64 x8073), (145, .bool x8488)]) (fun x8488 => row (Fl.int .i64) 3 w4810 t4807.length w4811 t4807 :: pt b4786 (.cells [.int .i64 ((x4568.getD default).states), .map (some b4794), .map (some b4795)].toArray 91) :: mapo Fl.bs.ov Q4.fl.av b4794 ((x4568.getD default).holds) :: mapo Q8.fl.av Q4.fl.av b4795 ((x4568.getD default).next) :: row (Fl.int .i64) 3 w4801 t4798.length w4802 t4798 :: row (Fl.int .i64) 3 w268 t265.length w269 t265 :: pt b258 (.cells [.int .i64 a0_0, .slice A0_1 a0_1.length c0_1, .slice A0_2 a0_2.length c0_2, .slice A0_3 a0_3.length c0_3].toArray 26) :: Fr) (fun x8488 => G8489 (.inl x8488) = some o8278) ?_ (fun J8492 => ?_)
                                 ·rintro x8488 j; have j := (hl8490 _).symm.trans j
                                  ·refine At.Quiet.run 1 rfl (At.Quiet.nil ?_); refine At.ibn ?_; refine At.thn (At.region (At.run 3 rfl (At.nil ?_))); have j := bnx hf_ j; exact fun a w e hs => ⟨m8282, (x8488, IntKind.i64.wrap (x8073 + 1)), hlt8284, j, e.sub ⟨rfl, rfl, rfl, rfl, rfl, rfl, rfl, rfl, rfl, rfl, rfl, rfl, trivial⟩, hs⟩
                                 ··rcases bite j with ⟨h8493, j⟩ | ⟨h8493, j⟩
                                   ··refine At.Quiet.know (t := 129) rfl h8493 ?_
                                     refine At.Quiet.run 16 rfl ?_; exact At.Quiet.of (J8492 true j) ⟨rfl, rfl, rfl, rfl, rfl, rfl, rfl, rfl, rfl, rfl, rfl, rfl, trivial⟩
                                   ··refine At.Quiet.know (t := 129) rfl (bn h8493) ?_
                                     refine At.Quiet.run 3 rfl ?_; obtain ⟨h8494, j⟩ := bnone j; refine At.Quiet.y (Y.ix (.s (.s (.s (.s .z)))) rfl rfl rfl rfl rfl rfl h8494.1 h8494.2) rfl rfl rfl ?_; refine At.Quiet.y (Y.ld (.s (.s (.s (.s .z)))) (q := 0) rfl rfl h8494.1 h8494.2 rfl rfl rfl) rfl rfl rfl ?_; obtain ⟨h8495, j⟩ := bnone j; refine At.Quiet.y (Y.ix (.s (.s (.s (.s (.s .z))))) rfl rfl rfl rfl rfl rfl h8495.1 h8495.2) rfl rfl rfl ?_; refine At.Quiet.y (Y.ld (.s (.s (.s (.s (.s .z))))) (q := 0) rfl rfl h8495.1 h8495.2 rfl rfl rfl) rfl rfl rfl ?_; refine At.Quiet.run 3 rfl ?_; obtain ⟨h8496, j⟩ := bnone j; refine At.Quiet.y (Y.ix .z rfl rfl rfl rfl rfl rfl h8496.1 h8496.2) rfl rfl rfl ?_; refine At.Quiet.y (Y.ld .z (q := 0) rfl rfl h8496.1 h8496.2 rfl rfl rfl) rfl rfl rfl ?_; obtain ⟨h8497, j⟩ := bnone j; refine At.Quiet.y (Y.ix (.s (.s (.s (.s (.s .z))))) rfl rfl rfl rfl rfl rfl h8497.1 h8497.2) rfl rfl rfl ?_; refine At.Quiet.y (Y.ld (.s (.s (.s (.s (.s .z))))) (q := 0) rfl rfl h8497.1 h8497.2 rfl rfl rfl) rfl rfl rfl ?_; refine At.Quiet.run 2 rfl ?_; exact At.Quiet.of (J8492 (decide (gt t265 (gt t4798 x5415) = gt t265 (gt t4807 x8073))) j) ⟨rfl, rfl, rfl, rfl, rfl, rfl, rfl, rfl, rfl, rfl, rfl, rfl, trivial⟩
                               ··refine At.condF rfl (decide_eq_false h8287) ?_
                                 refine At.exit ?_; refine At.the ?_; refine At.the ?_; exact fun a w e hs => J8285 x8072 (bdn j ho8280) a w (e.sub ⟨rfl, rfl, rfl, rfl, rfl, rfl, rfl, rfl, rfl, rfl, rfl, trivial⟩) hs
                           ··refine At.condF rfl (decide_eq_false h7469) ?_
                             refine At.exit ?_; refine At.the ?_; refine At.the ?_; exact fun a w e hs => J5626 () (bdn j ho5621) a w (e.sub ⟨rfl, rfl, rfl, rfl, rfl, rfl, rfl, rfl, rfl, trivial⟩) hs
                       ··refine At.condF rfl (decide_eq_false h4783) ?_
                         refine At.exit ?_; refine At.the ?_; refine At.the ?_; exact fun a w e hs => J4782 (x4568, w4567) (bdn j ho4777) a w (e.sub ⟨rfl, rfl, rfl, rfl, rfl, trivial⟩) hs
                   ·clear hit3961 m3959; rintro m3959 ⟨x3749, x3750, w3748⟩ hit3961; obtain ⟨m3960, f_, hlt3962, hf_, j⟩ := bit hit3961; clear hit3961; have j : (Q13.l2b a0_3 x1901 x2721 x3749 x3750).bind _ = some o3956 := j; unfold Q13.l2b at j
                    ·refine At.seq (At.seq (At.region (At.run 2 rfl (At.y (Y.load rfl rfl (.s (.s .z)) rfl rfl rfl) rfl rfl rfl (At.run 2 rfl (At.nil (At.thn ?_))))))); rcases bite j with ⟨h8498, j⟩ | ⟨h8498, j⟩
                     ··refine At.condT rfl (decide_eq_true h8498) ?_
                       refine At.skip (At.thn (At.seq ?_)); refine At.block ?_; refine At.seq (At.region (At.run 2 rfl (At.y (Y.load rfl rfl (.s (.s .z)) rfl rfl rfl) rfl rfl rfl (At.run 1 rfl ?_)))); obtain ⟨h8499, j⟩ := bnone j; refine At.y (Y.ixRd hr0_3 rfl rfl rfl rfl rfl rfl rfl h8499.1 h8499.2) rfl rfl rfl ?_; refine At.y (Y.fa (RdS.some_ hr0_3 rfl h8499.1 h8499.2) rfl rfl rfl rfl rfl rfl) rfl rfl rfl ?_; refine At.y (Y.ldPrj Q2.prj_Name hr0_3 rfl rfl rfl h8499.1 h8499.2 rfl rfl) rfl rfl rfl ?_; obtain ⟨h8500, j⟩ := bnone j; refine At.optOpen (.s .z) h8500 (fun b8501 hb8502 cs8503 => ?_); have hq8504 := j; subst hb8502; have j := hq8504; refine At.ownPair (T := Ow.fl (Fl.int .i64)) (U := ((Ow.mp Fl.bs.ov Q4.fl.av).pair (Ow.mp Q8.fl.av Q4.fl.av))) (x := ((x3749.getD default).states, (x3749.getD default).holds, (x3749.getD default).next)) (.s .z) ?_; rintro cs8505 cs8506 rfl; refine At.ownFl (F := (Fl.int .i64)) (x := (x3749.getD default).states) .z ?_; rintro rfl; refine At.ownPair (T := Ow.mp Fl.bs.ov Q4.fl.av) (U := (Ow.mp Q8.fl.av Q4.fl.av)) (x := ((x3749.getD default).holds, (x3749.getD default).next)) .z ?_; rintro cs8507 cs8508 rfl; refine At.ownMp (kv := Fl.bs.ov) (vv := Q4.fl.av) (kvs := (x3749.getD default).holds) .z ?_; rintro b8509 rfl; refine At.ownMp (kv := Q8.fl.av) (vv := Q4.fl.av) (kvs := (x3749.getD default).next) (.s .z) ?_; rintro b8510 rfl; refine At.f1 (At.f2 ?_); obtain ⟨t8511, hc8512, j⟩ := bbind j; refine At.call rfl Q66.callee rfl rfl rfl (Q66.spec _ _ b8501 b8509 b8510 ((x3749.getD default).states) ((x3749.getD default).holds) ((x3749.getD default).next) ((gt a0_3 x3750).Name)  hc8512) ?_; rintro _ _ ⟨rfl, rfl⟩; refine At.alloc rfl rfl rfl (fun b8513 => ?_); refine At.store rfl rfl rfl rfl .z rfl rfl rfl (.c (.c (.c (.c .n)))) ?_; refine At.nil (At.thn (At.seq ?_)); refine At.quiet (by kernel_rfl) ?_; refine At.Quiet.y (Y.load rfl rfl .z rfl rfl rfl) rfl rfl rfl ?_; refine At.Quiet.run 1 rfl ?_; obtain ⟨t8514, hc8515, j⟩ := bbind j; refine At.Quiet.call rfl Q63.callee rfl rfl rfl (Q63.spec _ _  t8511.1 t8511.2.1 t8511.2.2.1 t8511.2.2.2 x1901  hc8515) (fun _ _ h_ => ⟨h_.1, fun _ hs => h_.2 ▸ hs⟩) ?_; refine At.Quiet.y (Y.load rfl rfl .z rfl rfl rfl) rfl rfl rfl ?_; refine At.Quiet.run 1 rfl ?_; obtain ⟨t8516, hc8517, j⟩ := bbind j; refine At.Quiet.call rfl Q63.callee rfl rfl rfl (Q63.spec _ _  t8511.1 t8511.2.1 t8511.2.2.1 t8511.2.2.2 x2721  hc8517) (fun _ _ h_ => ⟨h_.1, fun _ hs => h_.2 ▸ hs⟩) ?_; refine At.Quiet.run 1 rfl (At.Quiet.nil (At.thn ?_)); rcases bite j with ⟨h8518, j⟩ | ⟨h8518, j⟩
                       ··refine At.condF rfl (nf h8518) ?_
                         refine At.skip ?_; refine At.ibn ?_; refine At.thn (At.region (At.run 3 rfl (At.nil (At.f3 (At.f3 (At.f3 ?_)))))); refine At.optSome (x := (⟨((x3749.getD default).states), (x3749.getD default).holds, (x3749.getD default).next⟩ : Q1)) Q1.ent ?_; refine At.drop (.s .z) (At.f2 (At.f1 (At.f2 ?_))); have j := bnx hf_ j; exact fun a w e hs => ⟨m3960, ((some (⟨((x3749.getD default).states), (x3749.getD default).holds, (x3749.getD default).next⟩ : Q1)), IntKind.i64.wrap (x3750 + 1), (some b8501)), hlt3962, j, e.sub ⟨rfl, rfl, rfl, rfl, rfl, rfl, trivial⟩, hs⟩
                       ··refine At.condT rfl (nt (bn h8518)) ?_
                         refine At.seq (At.region (At.run 1 rfl (At.nil (At.thn (At.ret ?_))))); refine At.ibr ?_; refine At.thr ?_; have j := bupL hr3955 ho3958 j; refine At.thr ?_; refine At.ibr ?_; refine At.thr ?_; refine At.ibr ?_; have j := bup hr2938 j; refine At.thr ?_; have j := bupL hr2926 ho2929 j; refine At.thr ?_; refine At.ibr ?_; refine At.ibr ?_; refine At.thr ?_; have j := bupL hr2106 ho2109 j; refine At.thr ?_; refine At.ibr ?_; refine At.thr (At.drop .z (At.drop .z (At.drop .z (At.drop .z (At.drop .z (At.drop .z ?_)))))); cases bret j; exact At.res (.inl rfl) rfl rfl ⟨rfl, rfl⟩
                     ··refine At.condF rfl (decide_eq_false h8498) ?_
                       refine At.exit ?_; refine At.the ?_; refine At.the ?_; exact fun a w e hs => J3963 (x3749, w3748) (bdn j ho3958) a w (e.sub ⟨rfl, rfl, rfl, rfl, rfl, trivial⟩) hs
                 ··refine At.condT rfl (nt (decide_eq_false h3144)) ?_
                   refine At.exit ?_; refine At.the ?_; refine At.ibx ?_; refine At.thn ?_; exact fun a w e hs => J2939 (x2720, w2719) j a w (e.sub ⟨rfl, rfl, rfl, rfl, rfl, trivial⟩) hs
             ··refine At.condF rfl (decide_eq_false h2935) ?_
               refine At.exit ?_; refine At.the ?_; refine At.the ?_; exact fun a w e hs => J2934 (x2720, w2719) (bdn j ho2929) a w (e.sub ⟨rfl, rfl, rfl, rfl, trivial⟩) hs
         ··refine At.condF rfl (decide_eq_false h2115) ?_
           refine At.exit ?_; refine At.the ?_; refine At.the ?_; exact fun a w e hs => J2114 (x1900, w1899) (bdn j ho2109) a w (e.sub trivial) hs
   ··rcases bite j with ⟨h8519, j⟩ | ⟨h8519, j⟩
     ··refine At.know (t := 28) rfl h8519 ?_
       refine At.run 6 rfl ?_; exact At.of (J681 true j) ⟨rfl, rfl, rfl, rfl, rfl, trivial⟩
     ··refine At.know (t := 28) rfl (bn h8519) ?_
       refine At.run 3 rfl (At.y (Y.load rfl rfl (.s (.s .z)) rfl rfl rfl) rfl rfl rfl (At.run 2 rfl ?_)); exact At.of (J681 (!(decide ((t265.length : Int) = a0_0))) j) ⟨rfl, rfl, rfl, rfl, rfl, trivial⟩
 ··rcases bite j with ⟨h8520, j⟩ | ⟨h8520, j⟩
   ··refine At.know (t := 24) rfl (nf h8520) ?_
     refine At.run 1 rfl ?_; refine At.y (Y.eqOpt (.s .z) rfl rfl rfl rfl) rfl rfl rfl ?_; refine At.run 1 rfl ?_; exact At.of (J476 t261.isNone j) ⟨rfl, rfl, rfl, rfl, rfl, trivial⟩
   ··refine At.know (t := 24) rfl (nt (bn h8520)) ?_
     refine At.run 3 rfl ?_; exact At.of (J476 true j) ⟨rfl, rfl, rfl, rfl, rfl, trivial⟩

end Go.Bw
namespace Go.Bw
open Go Go.RowKit

theorem ali_l6 {c P Q : List Int} (hP : ∀ t ∈ P, 0 ≤ t ∧ t < (c.length : Int)) (hQ : ∀ t ∈ Q, 0 ≤ t ∧ t < (c.length : Int)) (hl : P.length ≤ 256) {m : Int} (m0 : 0 ≤ m) (m1 : m < (Q.length : Int)) (he : ∃ p ∈ P, gt c (gt Q m) = gt c p) :
 Q13.l6 c P Q m false 0 = some (.inl true) := by
 have hk : ∃ k : Int, 0 ≤ k ∧ k < (P.length : Int) ∧ gt c (gt Q m) = gt c (gt P k) := by
  obtain ⟨p, hp, e⟩ := he
  obtain ⟨k, hk, rfl⟩ := List.getElem_of_mem hp
  refine ⟨k, by omega, by omega, ?_⟩
  rw [Q114 (List.getElem?_eq_getElem hk)]
  exact e
 obtain ⟨r, hr, rfl⟩ := Q69 (body := fun t_ : Bool × Int => Q13.l6b c P Q m t_.1 t_.2) (fun s => 0 ≤ s.2 ∧ (s.1 = true ∨ ∃ k : Int, s.2 ≤ k ∧ k < (P.length : Int) ∧ gt c (gt Q m) = gt c (gt P k)))
  (fun r => r = .inl true) (fun s => ((P.length : Int) - s.2).toNat) (fun ⟨f, j⟩ ⟨j0, hj⟩ => by
   dsimp only at j0 hj ⊢
   simp only [Q13.l6b]
   by_cases h : j < (P.length : Int)
   ·right
    have hq := hQ _ (Q102 m0 m1)
    have hp := hP _ (Q102 j0 h)
    rw [if_pos h, wrap64 (x := j + 1) (by omega) (by omega)]
    cases f with
    | true =>
     rw [if_pos rfl, Q28]
     exact ⟨_, rfl, ⟨by dsimp only; omega, .inl rfl⟩, by dsimp only; omega⟩
    | false =>
     rw [if_neg (by decide), if_pos ⟨m0, m1⟩, if_pos hq, if_pos ⟨j0, h⟩, if_pos hp, Q28]
     refine ⟨_, rfl, ⟨by dsimp only; omega, ?_⟩, by dsimp only; omega⟩
     dsimp only
     by_cases e : gt c (gt Q m) = gt c (gt P j)
     ·exact .inl (decide_eq_true e)
     ·right
      rcases hj with hj | ⟨k, k0, k1, k2⟩
      ·cases hj
      ·refine ⟨k, ?_, k1, k2⟩
       by_cases hk : k = j
       ·subst hk; exact absurd k2 e
       ·omega
   ·left
    rw [if_neg h]
    refine ⟨_, rfl, ?_⟩
    rcases hj with rfl | ⟨k, k0, k1, _⟩
    ·rfl
    ·omega) (false, 0) ⟨Int.le_refl _, .inr hk⟩
 exact hr
theorem ali_l5 {c P Q : List Int} (hP : ∀ t ∈ P, 0 ≤ t ∧ t < (c.length : Int)) (hQ : ∀ t ∈ Q, 0 ≤ t ∧ t < (c.length : Int)) (hl : P.length ≤ 256) (hl2 : Q.length ≤ 256) (he : ∀ q ∈ Q, ∃ p ∈ P, gt c q = gt c p) :
 Q13.l5 c P Q 0 = some (.inl ()) := by
 obtain ⟨r, hr, rfl⟩ := Q69 (body := fun t_ : Int => Q13.l5b c P Q t_) (fun i => 0 ≤ i) (fun r => r = .inl ()) (fun i => ((Q.length : Int) - i).toNat) (fun i i0 => by
  simp only [Q13.l5b]
  by_cases h : i < (Q.length : Int)
  ·right
   rw [if_pos h, ali_l6 hP hQ hl i0 h (he _ (Q102 i0 h)), Q28, if_pos rfl, wrap64 (x := i + 1) (by omega) (by omega)]
   exact ⟨_, rfl, by omega, by omega⟩
  ·left; rw [if_neg h]; exact ⟨_, rfl, rfl⟩) 0 (Int.le_refl _)
 exact hr
theorem ali_l4 {c P Q : List Int} : Q13.l4 c P Q 0 = Q13.l5 c Q P 0 := rfl
section
variable {n : Int} {x : List Bs} {y : List Q0} {z : List Q2} {next : List (Q8 × Q4)} {holds : List (Bs × Q4)} {c : List Int}
theorem Q216 (R : RightS n x y z) (C : Cls n (Hs z) (Es x y) c) (hx : Nx x y next) {s t : Int} (s0 : 0 ≤ s) (s1 : s < n) (t0 : 0 ≤ t) (t1 : t < n) (e : gt c s = gt c t) {i : Int} (i0 : 0 ≤ i) (i1 : i < (x.length : Int)) :
 ∀ q ∈ (nxW hx s (gt x i)).list, ∃ p ∈ (nxW hx t (gt x i)).list, gt c q = gt c p := fun q hq => by
 have hw := Q109 R.n1 R.ed
 obtain ⟨q0, q1, h⟩ := (Q127 (Q128 hx s _)).1 hq
 have h1 : Es x y i.toNat s q := ⟨by omega, by rwa [show ((i.toNat : Nat) : Int) = i from by omega]⟩
 obtain ⟨p, h2, h3⟩ := Alike.ks.fw _ _ ((C.iff s t s0 s1 t0 t1).1 e) _ _ h1
 have w1 := hw _ _ _ h1
 have w2 := hw _ _ _ h2
 refine ⟨p, (Q127 (Q128 hx t _)).2 ⟨by omega, by have := R.n1; omega, ?_⟩, (C.iff q p w1.2.2.1 w1.2.2.2 w2.2.2.1 w2.2.2.2).2 h3⟩
 have := h2.2
 rwa [show ((i.toNat : Nat) : Int) = i from by omega] at this
theorem ali_l3 (R : RightS n x y z) (C : Cls n (Hs z) (Es x y) c) (hx : Nx x y next) {s t : Int} (s0 : 0 ≤ s) (s1 : s < n) (t0 : 0 ≤ t) (t1 : t < n) (e : gt c s = gt c t) :
 Q13.l3 x c s t (some ⟨n, holds, next⟩) 0 = some (.inl (some ⟨n, holds, next⟩)) := by
 have n1 := R.n1
 have nx := R.nx
 have hl := C.len
 have hin : ∀ (u : Int) (a : Bs), ∀ v ∈ (nxW hx u a).list, 0 ≤ v ∧ v < (c.length : Int) := fun u a v hv => by
  rw [hl]
  exact nxW_in hx n1 R.ed hv
 obtain ⟨r, hr, rfl⟩ := Q69 (body := fun t_ : Option Q1 × Int => Q13.l3b x c s t t_.1 t_.2) (fun s => s.1 = some ⟨n, holds, next⟩ ∧ 0 ≤ s.2) (fun r => r = .inl (some ⟨n, holds, next⟩)) (fun s => ((x.length : Int) - s.2).toNat) (fun ⟨o, i⟩ ⟨ho, i0⟩ => by
  dsimp only at ho i0 ⊢
  subst ho
  simp only [Q13.l3b]
  by_cases h : i < (x.length : Int)
  ·right
   rw [if_pos h, if_pos ⟨i0, h⟩]
   simp only [Option.isNone_some, if_true, Option.getD_some, nxW_run hx, Option.bind_some, W4.t, Q178]
   rw [ali_l4, ali_l5 (hin _ _) (hin _ _) (Q124 _) (Q124 _) (Q216 R C hx s0 s1 t0 t1 e i0 h), Q28, ali_l5 (hin _ _) (hin _ _) (Q124 _) (Q124 _) (Q216 R C hx t0 t1 s0 s1 e.symm i0 h), Q28, wrap64 (x := i + 1) (by omega) (by omega)]
   exact ⟨_, rfl, ⟨rfl, by dsimp only; omega⟩, by dsimp only; omega⟩
  ·left; rw [if_neg h]; exact ⟨_, rfl, rfl⟩) (some ⟨n, holds, next⟩, 0) ⟨rfl, Int.le_refl _⟩
 exact hr
theorem ali_l2 (R : RightS n x y z) (C : Cls n (Hs z) (Es x y) c) (hh : Hx z holds) {s t : Int} (s0 : 0 ≤ s) (s1 : s < n) (t0 : 0 ≤ t) (t1 : t < n) (e : gt c s = gt c t) :
 Q13.l2 z s t (some ⟨n, holds, next⟩) 0 = some (.inl (some ⟨n, holds, next⟩)) := by
 have n1 := R.n1
 have nz := R.nz
 obtain ⟨r, hr, rfl⟩ := Q69 (body := fun t_ : Option Q1 × Int => Q13.l2b z s t t_.1 t_.2) (fun s => s.1 = some ⟨n, holds, next⟩ ∧ 0 ≤ s.2) (fun r => r = .inl (some ⟨n, holds, next⟩)) (fun s => ((z.length : Int) - s.2).toNat) (fun ⟨o, i⟩ ⟨ho, i0⟩ => by
  dsimp only at ho i0 ⊢
  subst ho
  simp only [Q13.l2b]
  by_cases h : i < (z.length : Int)
  ·right
   have hp := hoW_rep hh (gt z i).Name
   have hd := Alike.ks.hd _ _ ((C.iff s t s0 s1 t0 t1).1 e) i.toNat
   unfold Hs at hd
   rw [show ((i.toNat : Nat) : Int) = i from by omega] at hd
   have hb : (hoW hh (gt z i).Name).has s = (hoW hh (gt z i).Name).has t := by
    rw [Bool.eq_iff_iff, hp s s0 (by omega), hp t t0 (by omega)]
    exact ⟨fun q => (hd.1 ⟨by omega, q⟩).2, fun q => (hd.2 ⟨by omega, q⟩).2⟩
   rw [if_pos h, if_pos ⟨i0, h⟩]
   simp only [Option.isNone_some, if_true, Option.getD_some, hoW_run hh, Option.bind_some, W4.t, has_run, decide_eq_true (show 0 ≤ s ∧ s < 256 by omega), decide_eq_true (show 0 ≤ t ∧ t < 256 by omega), Bool.true_and, hb]
   rw [if_pos (by simp), wrap64 (x := i + 1) (by omega) (by omega)]
   exact ⟨_, rfl, ⟨rfl, by dsimp only; omega⟩, by dsimp only; omega⟩
  ·left; rw [if_neg h]; exact ⟨_, rfl, rfl⟩) (some ⟨n, holds, next⟩, 0) ⟨rfl, Int.le_refl _⟩
 exact hr
theorem ali_l1 (R : RightS n x y z) (C : Cls n (Hs z) (Es x y) c) (hx : Nx x y next) (hh : Hx z holds) {s : Int} (s0 : 0 ≤ s) (s1 : s < n) :
 Q13.l1 x z c s (some ⟨n, holds, next⟩) 0 = some (.inl (some ⟨n, holds, next⟩)) := by
 have n1 := R.n1
 have hl := C.len
 obtain ⟨r, hr, rfl⟩ := Q69 (body := fun t_ : Option Q1 × Int => Q13.l1b x z c s t_.1 t_.2) (fun s => s.1 = some ⟨n, holds, next⟩ ∧ 0 ≤ s.2) (fun r => r = .inl (some ⟨n, holds, next⟩)) (fun q => (s - q.2).toNat) (fun ⟨o, i⟩ ⟨ho, i0⟩ => by
  dsimp only at ho i0 ⊢
  subst ho
  simp only [Q13.l1b]
  by_cases h : i < s
  ·right
   rw [if_pos h, if_pos ⟨s0, by omega⟩, if_pos ⟨i0, by omega⟩, wrap64 (x := i + 1) (by omega) (by omega)]
   by_cases e : gt c s = gt c i
   ·rw [if_pos e, ali_l2 R C hh s0 s1 i0 (by omega) e, Q28, ali_l3 R C hx s0 s1 i0 (by omega) e, Q28, Q28]
    exact ⟨_, rfl, ⟨rfl, by dsimp only; omega⟩, by dsimp only; omega⟩
   ·rw [if_neg e, Q28]
    exact ⟨_, rfl, ⟨rfl, by dsimp only; omega⟩, by dsimp only; omega⟩
  ·left; rw [if_neg h]; exact ⟨_, rfl, rfl⟩) (some ⟨n, holds, next⟩, 0) ⟨rfl, Int.le_refl _⟩
 exact hr
theorem ali_l0 (R : RightS n x y z) (C : Cls n (Hs z) (Es x y) c) (hx : Nx x y next) (hh : Hx z holds) :
 Q13.l0 x z c (some ⟨n, holds, next⟩) 0 = some (.inl (some ⟨n, holds, next⟩)) := by
 have n1 := R.n1
 have hl := C.len
 obtain ⟨r, hr, rfl⟩ := Q69 (body := fun t_ : Option Q1 × Int => Q13.l0b x z c t_.1 t_.2) (fun s => s.1 = some ⟨n, holds, next⟩ ∧ 0 ≤ s.2) (fun r => r = .inl (some ⟨n, holds, next⟩)) (fun q => ((c.length : Int) - q.2).toNat) (fun ⟨o, i⟩ ⟨ho, i0⟩ => by
  dsimp only at ho i0 ⊢
  subst ho
  simp only [Q13.l0b]
  by_cases h : i < (c.length : Int)
  ·right
   rw [if_pos h, ali_l1 R C hx hh i0 (by omega), Q28, wrap64 (x := i + 1) (by omega) (by omega)]
   exact ⟨_, rfl, ⟨rfl, by dsimp only; omega⟩, by dsimp only; omega⟩
  ·left; rw [if_neg h]; exact ⟨_, rfl, rfl⟩) (some ⟨n, holds, next⟩, 0) ⟨rfl, Int.le_refl _⟩
 exact hr
end
theorem alike_run (n : Int) (x : List Bs) (y : List Q0) (z : List Q2) (hs : ∀ p ∈ z, (p.States.length : Int) ≤ 9223372036854775807) : Q13.f n x y z = some true := by
 unfold Q13.f
 rw [Q247, Option.bind_some]
 rcases Q243 n x y z hs with ⟨_, hN, hE⟩ | ⟨R, c, hc, C⟩
 ·simp [hN, hE, jn]
 ·obtain ⟨m0, hm0, hh⟩ := Q220 z (by have := R.nz; omega) hs (fun i j h0 h1 h2 => rise_ne R.rz h0 h1 h2)
  obtain ⟨m1, hm1, hx⟩ := l1_run n x y (by have := R.ny; omega) R.ed R.n1
  obtain ⟨b, hb, hf⟩ := Q209 n x y z hs
  have hbt : b = true := hf.2 R
  subst hbt
  have hN : Q11.f n x y z = some (some ⟨n, m0, m1⟩) := by unfold Q11.f; rw [hb]; simp [hm0, hm1, jn]
  have hl := C.len
  rw [hN, Option.bind_some, hc, Option.bind_some, if_pos rfl, Q28, Option.isNone_some, if_neg (by decide), decide_eq_true hl, Q28, if_neg (by decide), ali_l0 R C hx hh, Q28]
end Go.Bw
namespace Go.Bw
open Go Go.RowKit Go.Proofs Go.ChangeShapes Go.WideShapes
abbrev laid64 : List (String × DataW Unit) := [("math/bits.deBruijn64tab", Go.Proofs.YtbkooifhcekpmaaGreatDoor.Rows.laid_math_bits_deBruijn64tab)]
theorem Q258 {H : Type} : (Go.Proofs.YtbkooifhcekpmaaGreatDoor.Rows.laid_math_bits_deBruijn64tab : DataW H) = .agg (Tryz.gtab0.map fun a => .lit (.int .u8 a)) := rfl
theorem Q250 : Tryz.prog.globalNamed "math/bits.deBruijn64tab" = some 0 := by kernel_rfl
theorem Q264 : (Tryz.prog.globals[0]?).map (·.type) = some 138 := by kernel_rfl
theorem Q268 (os : Os) (args : Array Value) : laidMetH Tryz.prog laid64 ((World.doorLaid Tryz.prog 31 os).forCall (fun _ _ => 0) ⟨#[], args, []⟩).memory :=
 laidMetH_of_parts3 (fuel := 8) (laidMet_of_run' 8 (by kernel_rfl) (by kernel_rfl)) (by kernel_rfl) (by kernel_rfl)
theorem laid64_rd {W : World} (h : laidMetH Tryz.prog laid64 W) : RdS (Fl.int .u8).rep (wh W) (some ⟨0, 0, none⟩) Tryz.gtab0 := by
 rw [MakeChecks.laidMetH_plain _ _ _ (by kernel_rfl)] at h
 obtain ⟨ps, ⟨g0, t0, cs0, f0, p0, q0, hg0, ht0, hv0, hd0, _, _⟩, _, _⟩ := h
 obtain rfl := Option.some.inj (Q250.symm.trans hg0)
 obtain rfl := Option.some.inj (Q264.symm.trans ht0)
 obtain ⟨xs, m1, rfl, hx1, hlen, hn3, hel⟩ := DataW.trod_array Tryz.underlying138 hd0
 have hx : xs.map (·.1) = Tryz.gtab0.map fun a => (DataW.lit (.int .u8 a) : DataW Unit) := by
  have h1 := (Prod.mk.inj hx1).1
  have h2 := (Q258 (H := Unit)).symm.trans h1
  exact (DataW.agg.inj h2).symm
 refine Q263 fun i hi => ?_
 have hgl : Tryz.gtab0.length = 64 := rfl
 have hi' : i < 64 := by omega
 have he := hel i hi'
 have hxi : i < xs.length := by omega
 rw [List.getElem?_eq_getElem hxi] at he
 obtain ⟨k, e1, e2, _⟩ := DataW.trod_int Tryz.underlying5 he
 obtain ⟨v, hv⟩ : ∃ v, Tryz.gtab0[i]? = some v := ⟨_, List.getElem?_eq_getElem hi⟩
 have h2 := congrArg (fun l => l[i]?) hx
 simp only [List.getElem?_map, List.getElem?_eq_getElem hxi, hv, Option.map_some, Option.some.injEq] at h2
 rw [e2] at h2
 have hk : k = v := by simpa using h2
 have c5 : Tryz.prog.cellsOf 5 = 1 := by kernel_rfl
 rw [c5, Nat.mul_one] at e1
 rw [World.var?_cell hg0 hv0 i]
 have hc : (cs0.toList.drop i)[0]? = some (.int .u8 k) := by
  cases hd : cs0.toList.drop i with
  | nil => rw [hd] at e1; simp at e1
  | cons a r => rw [hd] at e1; simp at e1; simp [e1]
 rw [List.getElem?_drop, Nat.add_zero] at hc
 rw [List.getD_eq_getElem?_getD, hv, Option.getD_some, ← hk]
 simpa using hc
end Go.Bw
namespace Go.Bw
open Go Go.RowKit
theorem Q270 {n : Int} {x : List Bs} {y : List Q0} {z : List Q2} (h : (Lit.int .i64 n).wf = true ∧ (x.length ≤ maxLen ∧ ∀ s ∈ x, s.length ≤ maxLen) ∧ (y.length ≤ maxLen ∧ ∀ e ∈ y, ((Lit.int .i64 e.From).wf = true ∧ (Lit.int .i64 e.Action).wf = true ∧ (Lit.int .i64 e.To).wf = true)) ∧
 (z.length ≤ maxLen ∧ ∀ p ∈ z, (p.Name.length ≤ maxLen ∧ (p.States.length ≤ maxLen ∧ ∀ s ∈ p.States, (Lit.int .i64 s).wf = true)))) :
 Q13.f n x y z = some true := alike_run n x y z fun p hp => by
 have h1 := (h.2.2.2.2 p hp).2.1
 have h2 : maxLen ≤ 9223372036854775807 := by decide
 omega
end Go.Bw
