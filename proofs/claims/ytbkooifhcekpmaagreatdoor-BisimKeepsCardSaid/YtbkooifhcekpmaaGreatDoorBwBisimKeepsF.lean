/- BisimKeeps, part 6: walks and plain laws. Conditions: none. -/
import Derived.Test.YtbkooifhcekpmaaGreatDoorProg
import Derived.Deep.QuietTactic
import Derived.Test.YtbkooifhcekpmaaGreatDoorBwBisimKeepsE
set_option linter.unusedVariables false
set_option linter.unusedSimpArgs false
set_option linter.unusedSectionVars false
set_option maxRecDepth 100000
set_option maxHeartbeats 2000000
namespace Go.Bw
open Go Go.RowKit

theorem shr_wd (v : BitVec 64) {s : Int} (h0 : 0 ≤ s) (h1 : s < 64) : Bw.shr .u64 (Wd v) s = Wd (v >>> s.toNat) := by
 have hs : min s.toNat IntKind.u64.bits = s.toNat := Nat.min_eq_left (show s.toNat ≤ 64 by omega)
 unfold Bw.shr Wd
 rw [hs, Int.fdiv_eq_ediv_of_nonneg _ (Int.pow_nonneg (by decide)), BitVec.toNat_ushiftRight, Nat.shiftRight_eq_div_pow]
 have : (2 : Int) ^ s.toNat = ((2 ^ s.toNat : Nat) : Int) := by rw [Int.natCast_pow]; rfl
 rw [this]
 rfl
theorem wd_zero {v : BitVec 64} : Wd v = 0 ↔ v = 0#64 := by
 constructor
 ·intro h; exact Wd.inj (h.trans rfl)
 ·rintro rfl; rfl
theorem bit_wd (v : BitVec 64) {s : Int} (h0 : 0 ≤ s) (h1 : s < 64) : band .u64 (Bw.shr .u64 (Wd v) s) 1 = 1 ↔ v.getLsbD s.toNat = true := by
 rw [shr_wd v h0 h1, show (1 : Int) = Wd 1#64 from rfl, Q154]
 constructor
 ·intro h
  have := Wd.inj h
  have h2 := congrArg (fun z => z.getLsbD 0) this
  simpa using h2
 ·intro h
  congr 1
  apply BitVec.eq_of_getLsbD_eq
  intro i hi
  rw [BitVec.getLsbD_and, BitVec.getLsbD_ushiftRight]
  by_cases hi0 : i = 0
  ·subst hi0; simp [h]
  ·have : (1#64).getLsbD i = false := by simp [hi0]
   rw [this]; simp
theorem Q211 {κ ν : Type} [DecidableEq κ] : ∀ (m : List (κ × ν)) (k k' : κ) (v : ν), mget (mset m k v) k' = if k = k' then some v else mget m k'
 | [], k, k', v => by unfold mset mget; split <;> rfl
 | p :: r, k, k', v => by
  unfold mset
  by_cases h : p.1 = k
  ·rw [if_pos h]
   unfold mget
   by_cases h2 : k = k'
   ·simp [h2]
   ·rw [if_neg h2, if_neg h2, if_neg (fun h3 => h2 (h.symm.trans h3))]
  ·rw [if_neg h]
   unfold mget
   by_cases h2 : p.1 = k'
   ·rw [if_pos h2, if_pos h2, if_neg (fun h3 => h (h2.trans h3.symm))]
   ·rw [if_neg h2, if_neg h2, Q211 r k k' v]
def Hit (x : List Bs) (E : List Q1) (k : Q7) (t : Int) : Prop := ∃ e ∈ E, e.From = k.from_ ∧ e.To = t ∧ (gt x e.Action = k.action ∨ k.action = [45])
abbrev set0 : Q0 := ⟨(0 : Int), (0 : Int), (0 : Int), (0 : Int)⟩
def W4.s (u : W4) : Q0 := ⟨Wd u.a, Wd u.b, Wd u.c, Wd u.d⟩
def Nx (x : List Bs) (E : List Q1) (m : List (Q7 × Q0)) : Prop := ∀ k, ∃ u : W4, (mget m k).getD set0 = u.s ∧ u.Rep (Hit x E k)
theorem put_hit {m : List (Q7 × Q0)} {S : Q7 → Int → Prop} (h : ∀ k, ∃ u : W4, (mget m k).getD set0 = u.s ∧ u.Rep (S k)) {k0 : Q7} {t : Int} (h0 : 0 ≤ t) (h1 : t < 256) {u : W4} (hu : (mget m k0).getD set0 = u.s) :
 ∀ k, ∃ u' : W4, (mget (mset m k0 (u.put t).s) k).getD set0 = u'.s ∧ u'.Rep (fun n => S k n ∨ k0 = k ∧ n = t) := fun k => by
 rw [Q211]
 by_cases hk : k0 = k
 ·subst hk
  rw [if_pos rfl]
  obtain ⟨v, hv, hr⟩ := h k0
  rw [hu] at hv
  have : u = v := by
   cases u; cases v
   simp only [W4.s, Q0.mk.injEq] at hv
   rw [Wd.inj hv.1, Wd.inj hv.2.1, Wd.inj hv.2.2.1, Wd.inj hv.2.2.2]
  subst this
  refine ⟨u.put t, rfl, fun n n0 n1 => ?_⟩
  rw [W4.put_rep hr h0 h1 n n0 n1]
  simp
 ·rw [if_neg hk]
  obtain ⟨v, hv, hr⟩ := h k
  refine ⟨v, hv, fun n n0 n1 => ?_⟩
  rw [hr n n0 n1]
  simp [hk]
theorem l2_run (x : List Bs) (y : List Q1) {j : Int} (hj : 0 ≤ j) (hj2 : j < (y.length : Int)) {E : List Q1} {m : List (Q7 × Q0)} (hm : Nx x E m) (ht : 0 ≤ (gt y j).To ∧ (gt y j).To < 256) :
 ∃ m', Q17.l2 x y j m 0 = some (.inl m') ∧ Nx x (E ++ [gt y j]) m' := by
 unfold Q17.l2
 rw [Q70]
 have w1 : IntKind.i64.wrap (0 + 1) = 1 := wrap64 (by decide) (by decide)
 have w2 : IntKind.i64.wrap (1 + 1) = 2 := wrap64 (by decide) (by decide)
 have g0 : gt [gt x (gt y j).Action, ([45] : Bs)] 0 = gt x (gt y j).Action := rfl
 have g1 : gt [gt x (gt y j).Action, ([45] : Bs)] 1 = [45] := rfl
 obtain ⟨u1, e1, r1⟩ := hm ⟨(gt y j).From, gt x (gt y j).Action⟩
 have s1 := put_hit hm ht.1 ht.2 e1
 obtain ⟨u2, e2, r2⟩ := s1 ⟨(gt y j).From, [45]⟩
 have s2 := put_hit s1 ht.1 ht.2 e2
 refine ⟨mset (mset m ⟨(gt y j).From, gt x (gt y j).Action⟩ (u1.put (gt y j).To).s) ⟨(gt y j).From, [45]⟩ (u2.put (gt y j).To).s, ?_, fun k => ?_⟩
 rotate_left
 ·obtain ⟨u3, e3, r3⟩ := s2 k
  refine ⟨u3, e3, fun n n0 n1 => ?_⟩
  rw [r3 n n0 n1]
  unfold Hit
  constructor
  ·rintro ((⟨e, he, q⟩ | ⟨rfl, rfl⟩) | ⟨rfl, rfl⟩)
   ·exact ⟨e, by simp [he], q⟩
   ·exact ⟨gt y j, by simp, rfl, rfl, .inl rfl⟩
   ·exact ⟨gt y j, by simp, rfl, rfl, .inr rfl⟩
  ·rintro ⟨e, he, q1, q2, q3⟩
   rcases List.mem_append.1 he with he | he
   ·exact .inl (.inl ⟨e, he, q1, q2, q3⟩)
   ·simp at he
    subst he
    rcases q3 with q3 | q3
    ·exact .inl (.inr ⟨by rw [q1, q3], q2.symm⟩)
    ·exact .inr ⟨by rw [q1, ← q3], q2.symm⟩
 ·simp only [Q17.l2b]
  rw [if_pos (by simp), if_pos (by simp), g0, e1]
  simp only [W4.s, Q175, if_pos ht, Option.bind_some, nx, w1]
  rw [Q70]
  simp only [Q17.l2b]
  rw [if_pos (by simp), if_pos (by simp), g1]
  have e2' : (mget (mset m ({ from_ := (gt y j).From, action := gt x (gt y j).Action } : Q7) ({ c0 := (u1.put (gt y j).To).t.1, c1 := (u1.put (gt y j).To).t.2.1, c2 := (u1.put (gt y j).To).t.2.2.1, c3 := (u1.put (gt y j).To).t.2.2.2 } : Q0)) { from_ := (gt y j).From, action := [45] }).getD set0 = u2.s := e2
  rw [e2']
  simp only [W4.s, Q175, if_pos ht, Option.bind_some, nx, w2]
  rw [Q70]
  simp only [Q17.l2b]
  rw [if_neg (by simp)]
  rfl
theorem l1_run (n : Int) (x : List Bs) (y : List Q1) (hy : (y.length : Int) ≤ 9223372036854775807) (he : ∀ e ∈ y, EdgeIn n x.length e) (hn : n ≤ 24) :
 ∃ m, Q17.l1 x y [] 0 = some (.inl m) ∧ Nx x y m := by
 obtain ⟨r, hr, m, rfl, hm⟩ := Q35 (body := fun t_ : List (Q7 × Q0) × Int => Q17.l1b x y t_.1 t_.2) (fun s => 0 ≤ s.2 ∧ s.2 ≤ (y.length : Int) ∧ Nx x (y.take s.2.toNat) s.1)
  (fun r => ∃ m, r = .inl m ∧ Nx x y m) (fun s => ((y.length : Int) - s.2).toNat) (fun ⟨m, i⟩ ⟨h0, h1, h2⟩ => by
   dsimp only at h0 h1 h2 ⊢
   unfold Q17.l1b
   by_cases hi : i < (y.length : Int)
   ·right
    have hE := he _ (Q48 h0 hi)
    obtain ⟨m', hm', hx⟩ := l2_run x y h0 hi h2 ⟨hE.2.2.1, by have := hE.2.2.2.1; omega⟩
    rw [if_pos hi, if_pos ⟨h0, hi⟩, if_pos hE.2.2.2.2, hm', Q12, wrap64 (x := i + 1) (by omega) (by omega)]
    refine ⟨_, rfl, ⟨by dsimp only; omega, by dsimp only; omega, ?_⟩, by dsimp only; omega⟩
    dsimp only
    rw [show (i + 1).toNat = i.toNat + 1 from by omega, List.take_add_one, Q68 h0 hi]
    exact hx
   ·left
    rw [if_neg hi]
    refine ⟨_, rfl, m, rfl, ?_⟩
    rwa [List.take_of_length_le (by omega)] at h2) ([], 0) ⟨Int.le_refl _, by dsimp only; omega, fun k => ⟨W4.z, rfl, fun n n0 n1 => by
     rw [W4.z_rep n n0 n1]
     simp [Hit]⟩⟩
 exact ⟨m, hr, hm⟩
end Go.Bw
namespace Go.Bw
open Go Go.RowKit

theorem wrap_neg (v : BitVec 64) : IntKind.u64.wrap (0 - Wd v) = Wd (-v) := by
 unfold Wd
 rw [BitVec.toNat_neg]
 have := v.isLt
 simp [IntKind.wrap, IntKind.bits, IntKind.signed]
 omega
theorem wrap_pred (v : BitVec 64) (h : v ≠ 0#64) : IntKind.u64.wrap (Wd v - 1) = Wd (v - 1#64) := by
 have h1 : Wd v ≠ 0 := fun e => h (Wd.inj (e.trans rfl))
 have h2 := Wd.lt v
 rw [wrapu (by omega) (by omega)]
 unfold Wd at *
 rw [BitVec.toNat_sub]
 have : (1#64).toNat = 1 := rfl
 rw [this]
 omega
theorem tz_tab : ∀ k : Fin 64, (0 ≤ Bw.shr .u64 (IntKind.u64.wrap (Wd (BitVec.twoPow 64 k.1) * 285870213051353865)) 58 ∧ Bw.shr .u64 (IntKind.u64.wrap (Wd (BitVec.twoPow 64 k.1) * 285870213051353865)) 58 < (64 : Int)) ∧
 IntKind.i64.wrap (gt Tryz.gtab0 (Bw.shr .u64 (IntKind.u64.wrap (Wd (BitVec.twoPow 64 k.1) * 285870213051353865)) 58)) = (k.1 : Int) := by decide +kernel
theorem tz_run {v : BitVec 64} {k : Nat} (hk : v.getLsbD k = true) (hb : ∀ i, i < k → v.getLsbD i = false) : Q32.f (Wd v) = some (k : Int) := by
 have hk64 := BitVec.lt_of_getLsbD hk
 have hv : Wd v ≠ 0 := fun e => by
  have : v = 0#64 := Wd.inj (e.trans rfl)
  rw [this] at hk
  simp at hk
 obtain ⟨h1, h2⟩ := tz_tab ⟨k, hk64⟩
 have hix : Q32.ix (Wd v) = Bw.shr .u64 (IntKind.u64.wrap (Wd (BitVec.twoPow 64 k) * 285870213051353865)) 58 := by
  unfold Q32.ix
  rw [wrap_neg, Q154, low_only hk hb]
 unfold Q32.f
 rw [if_neg hv, hix, if_pos h1, h2]
def wplaces (base : Int) (v : BitVec 64) : List Int := ((List.range 64).filter fun i => v.getLsbD i).map fun i : Nat => base + i
theorem Q345 (base : Int) : wplaces base 0#64 = [] := by
 unfold wplaces
 rw [List.filter_eq_nil_iff.2 (fun a _ => by simp)]
 rfl
theorem Q319 (base : Int) {v : BitVec 64} {k : Nat} (hk : v.getLsbD k = true) (hb : ∀ i, i < k → v.getLsbD i = false) : wplaces base v = (base + k) :: wplaces base (v &&& (v - 1#64)) := by
 have hk64 := BitVec.lt_of_getLsbD hk
 unfold wplaces
 have hr : List.range 64 = List.range k ++ k :: List.range' (k + 1) (63 - k) := by
  rw [List.range_eq_range', List.range_eq_range', show (64 : Nat) = k + (1 + (63 - k)) from by omega, ← List.range'_append_1, Nat.zero_add, Nat.add_comm 1, List.range'_succ]
 have e1 : (List.range k).filter (fun i => v.getLsbD i) = [] := List.filter_eq_nil_iff.2 fun a ha => by rw [hb a (by simpa using ha)]; simp
 have e2 : (List.range k).filter (fun i => (v &&& (v - 1#64)).getLsbD i) = [] := List.filter_eq_nil_iff.2 fun a ha => by rw [Q230 hk hb, hb a (by simpa using ha)]; simp
 have e3 : (List.range' (k + 1) (63 - k)).filter (fun i => v.getLsbD i) = (List.range' (k + 1) (63 - k)).filter (fun i => (v &&& (v - 1#64)).getLsbD i) := List.filter_congr fun a ha => by
  rw [Q230 hk hb]
  have : k + 1 ≤ a := (List.mem_range'_1.1 ha).1
  rw [decide_eq_false (by omega)]; simp
 have e4 : (v &&& (v - 1#64)).getLsbD k = false := by rw [Q230 hk hb]; simp
 rw [hr, List.filter_append, List.filter_append, e1, e2, List.filter_cons_of_pos (by simpa using hk), List.filter_cons_of_neg (by simp [e4]), e3]
 rfl
theorem Q141 (base : Int) (v : BitVec 64) : (wplaces base v).length ≤ 64 := by
 unfold wplaces
 rw [List.length_map]
 exact Nat.le_trans (List.length_filter_le _ _) (by simp)
theorem Q242 {base : Int} {v : BitVec 64} {t : Int} : t ∈ wplaces base v ↔ ∃ i : Nat, i < 64 ∧ v.getLsbD i = true ∧ t = base + i := by
 unfold wplaces
 rw [List.mem_map]
 constructor
 ·rintro ⟨i, hi, rfl⟩
  rw [List.mem_filter] at hi
  exact ⟨i, by simpa using hi.1, by simpa using hi.2, rfl⟩
 ·rintro ⟨i, h1, h2, rfl⟩
  exact ⟨i, List.mem_filter.2 ⟨by simpa using h1, by simpa using h2⟩, rfl⟩
theorem Q195 (base : Int) (v : BitVec 64) : (wplaces base v).Pairwise (· < ·) := by
 unfold wplaces
 rw [List.pairwise_map]
 refine (List.pairwise_lt_range (n := 64)).filter _ |>.imp fun h => by omega
noncomputable def listB (base : Int) (x : List Int) (v : Int) : Option (((List Int) × Int) ⊕ (((List Int)) ⊕ ((List Int)))) :=
 if v = 0 then
  dn (.inl x)
 else
  (Q32.f v).bind fun t =>
   if (x.length + ([(IntKind.i64.wrap (base + t))] : List Int).length) * 8 ≤ 140737488355328 then
    nx ((x ++ ([(IntKind.i64.wrap (base + t))] : List Int)), band .u64 v (IntKind.u64.wrap (v - 1)))
   else none
theorem Q182 {base : Int} (hb0 : 0 ≤ base) (hb1 : base ≤ 192) (acc : List Int) (ha : acc.length ≤ 192) (v : BitVec 64) :
 iter (fun t_ : List Int × Int => listB base t_.1 t_.2) (acc, Wd v) = some (.inl (acc ++ wplaces base v)) := by
 obtain ⟨r, hr, rfl⟩ := Q35 (body := fun t_ : List Int × Int => listB base t_.1 t_.2) (fun s => ∃ u : BitVec 64, s.2 = Wd u ∧ s.1 ++ wplaces base u = acc ++ wplaces base v)
  (fun r => r = .inl (acc ++ wplaces base v)) (fun s => (256 - s.1.length)) (fun ⟨x, w⟩ ⟨u, h1, h2⟩ => by
   dsimp only at h1 h2 ⊢
   subst h1
   unfold listB
   by_cases hu : u = 0#64
   ·left
    subst hu
    rw [Q345, List.append_nil] at h2
    rw [if_pos (show Wd 0#64 = 0 from rfl), h2]
    exact ⟨_, rfl, rfl⟩
   ·right
    obtain ⟨k, hk, hk1, hk2⟩ := low_ex hu
    have hw : Wd u ≠ 0 := fun e => hu (Wd.inj (e.trans rfl))
    have hp := Q319 base hk1 hk2
    have hlen : x.length + (wplaces base u).length = acc.length + (wplaces base v).length := by rw [← List.length_append, h2, List.length_append]
    have hpl := Q141 base v
    have hpu : 1 ≤ (wplaces base u).length := by rw [hp]; simp
    rw [if_neg hw, tz_run hk1 hk2, Option.bind_some, if_pos (by simp only [List.length_cons, List.length_nil]; omega), wrap_pred u hu, Q154, wrap64 (x := base + k) (by omega) (by omega)]
    refine ⟨_, rfl, ⟨_, rfl, ?_⟩, ?_⟩
    ·dsimp only
     rw [List.append_assoc, List.singleton_append, ← hp, h2]
    ·dsimp only
     rw [List.length_append, List.length_singleton]; omega) (acc, Wd v) ⟨v, rfl, rfl⟩
 exact hr
theorem band127 (n : Int) : 0 ≤ band .i64 n 127 ∧ band .i64 n 127 ≤ 127 := by
 show 0 ≤ IntKind.i64.wrap ((BitVec.ofInt 64 n &&& BitVec.ofInt 64 127).toNat : Int) ∧ _
 have e2 : (BitVec.ofInt 64 127).toNat = 2 ^ 7 - 1 := by rfl
 have e3 : (BitVec.ofInt 64 n &&& BitVec.ofInt 64 127).toNat = (BitVec.ofInt 64 n).toNat % 2 ^ 7 := by rw [BitVec.toNat_and, e2, Nat.and_two_pow_sub_one_eq_mod]
 have : (BitVec.ofInt 64 n).toNat % 2 ^ 7 < 2 ^ 7 := Nat.mod_lt _ (by decide)
 have h4 : band .i64 n 127 = IntKind.i64.wrap ((BitVec.ofInt 64 n &&& BitVec.ofInt 64 127).toNat : Int) := rfl
 rw [h4, e3, wrap64 (by omega) (by omega)]
 omega
theorem Q190 (a : Int) : ∃ t, Q23.f a = some t ∧ 0 ≤ t ∧ t ≤ 127 := ⟨_, rfl, band127 _⟩
theorem len_run (a b c d : Int) : ∃ t, Q122.f a b c d = some t ∧ 0 ≤ t ∧ t ≤ 508 := by
 obtain ⟨t1, h1, a1, b1⟩ := Q190 a
 obtain ⟨t2, h2, a2, b2⟩ := Q190 b
 obtain ⟨t3, h3, a3, b3⟩ := Q190 c
 obtain ⟨t4, h4, a4, b4⟩ := Q190 d
 refine ⟨t1 + t2 + t3 + t4, ?_, by omega, by omega⟩
 unfold Q122.f
 rw [h1, h2, h3, h4]
 simp only [Option.bind_some]
 rw [wrap64 (x := 0 + t1) (by omega) (by omega), wrap64 (x := 0 + t1 + t2) (by omega) (by omega), wrap64 (x := 0 + t1 + t2 + t3) (by omega) (by omega), wrap64 (x := 0 + t1 + t2 + t3 + t4) (by omega) (by omega)]
 congr 1
 omega
def W4.list (u : W4) : List Int := wplaces 0 u.a ++ wplaces 64 u.b ++ wplaces 128 u.c ++ wplaces 192 u.d
theorem Q268 (u : W4) : Q19.f (Wd u.a) (Wd u.b) (Wd u.c) (Wd u.d) = some u.list := by
 obtain ⟨t, ht, t0, t1⟩ := len_run (Wd u.a) (Wd u.b) (Wd u.c) (Wd u.d)
 have la := Q141 0 u.a
 have lb := Q141 64 u.b
 have lc := Q141 128 u.c
 have e0 : Q19.l0 [] (Wd u.a) = some (.inl ([] ++ wplaces 0 u.a)) := Q182 (base := 0) (by decide) (by decide) [] (by simp) u.a
 have e1 : Q19.l1 ([] ++ wplaces 0 u.a) (Wd u.b) = some (.inl (([] ++ wplaces 0 u.a) ++ wplaces 64 u.b)) := Q182 (base := 64) (by decide) (by decide) _ (by simp; omega) u.b
 have e2 : Q19.l2 (([] ++ wplaces 0 u.a) ++ wplaces 64 u.b) (Wd u.c) = some (.inl ((([] ++ wplaces 0 u.a) ++ wplaces 64 u.b) ++ wplaces 128 u.c)) := Q182 (base := 128) (by decide) (by decide) _ (by simp; omega) u.c
 have e3 : Q19.l3 ((([] ++ wplaces 0 u.a) ++ wplaces 64 u.b) ++ wplaces 128 u.c) (Wd u.d) = some (.inl (((([] ++ wplaces 0 u.a) ++ wplaces 64 u.b) ++ wplaces 128 u.c) ++ wplaces 192 u.d)) := Q182 (base := 192) (by decide) (by decide) _ (by simp; omega) u.d
 unfold Q19.f
 rw [ht, Option.bind_some, if_pos (by omega), e0, Q12, e1, Q12, e2, Q12, e3, Q12]
 rfl
theorem Q181 {u : W4} {S : Int → Prop} (h : u.Rep S) {t : Int} : t ∈ u.list ↔ 0 ≤ t ∧ t < 256 ∧ S t := by
 have key : ∀ (k : Int) (i : Nat), 0 ≤ k → k < 4 → i < 64 → ((u.sel k).getLsbD i = true ↔ S (64 * k + i)) := fun k i k0 k1 hi => by
  have := h (64 * k + i) (by omega) (by omega)
  unfold W4.has at this
  rwa [show (64 * k + (i : Int)) / 64 = k from by omega, show ((64 * k + (i : Int)) % 64).toNat = i from by omega] at this
 have kk : ∀ (k : Int), 0 ≤ k → k < 4 → (t ∈ wplaces (64 * k) (u.sel k) ↔ 64 * k ≤ t ∧ t < 64 * k + 64 ∧ S t) := fun k k0 k1 => by
  rw [Q242]
  constructor
  ·rintro ⟨i, hi, h1, rfl⟩
   exact ⟨by omega, by omega, (key k i k0 k1 hi).1 h1⟩
  ·rintro ⟨h1, h2, h3⟩
   refine ⟨(t - 64 * k).toNat, by omega, (key k _ k0 k1 (by omega)).2 ?_, by omega⟩
   rwa [show 64 * k + ((t - 64 * k).toNat : Int) = t from by omega]
 have k0 := kk 0 (by decide) (by decide)
 have k1 := kk 1 (by decide) (by decide)
 have k2 := kk 2 (by decide) (by decide)
 have k3 := kk 3 (by decide) (by decide)
 simp [W4.sel] at k0 k1 k2 k3
 unfold W4.list
 rw [List.mem_append, List.mem_append, List.mem_append, k0, k1, k2, k3]
 constructor
 ·rintro (((⟨a, b, c⟩ | ⟨a, b, c⟩) | ⟨a, b, c⟩) | ⟨a, b, c⟩) <;> exact ⟨by omega, by omega, c⟩
 ·rintro ⟨a, b, c⟩
  by_cases h1 : t < 64
  ·exact .inl (.inl (.inl ⟨a, h1, c⟩))
  ·by_cases h2 : t < 128
   ·exact .inl (.inl (.inr ⟨by omega, by omega, c⟩))
   ·by_cases h3 : t < 192
    ·exact .inl (.inr ⟨by omega, by omega, c⟩)
    ·exact .inr ⟨by omega, by omega, c⟩
theorem list_len (u : W4) : u.list.length ≤ 256 := by
 have a := Q141 0 u.a
 have b := Q141 64 u.b
 have c := Q141 128 u.c
 have d := Q141 192 u.d
 unfold W4.list
 simp only [List.length_append]
 omega
theorem has_run {u : W4} {n : Int} : Q72.f (Wd u.a) (Wd u.b) (Wd u.c) (Wd u.d) n = some (decide (0 ≤ n ∧ n < 256) && u.has n) := by
 unfold Q72.f
 by_cases h0 : 0 ≤ n
 ·rw [if_pos h0, Q12]
  by_cases h1 : n < 256
  ·have hm : IntKind.u64.wrap (band .i64 n 63) = n % 64 := by rw [band63 h0 (by omega), wrapu (by omega) (by omega)]
   have hbit : ∀ v : BitVec 64, decide (band .u64 (Bw.shr .u64 (Wd v) (n % 64)) 1 = 1) = v.getLsbD (n % 64).toNat := fun v => by
    rw [Bool.eq_iff_iff, decide_eq_true_eq, bit_wd v (by omega) (by omega)]
   have hn : (0 : Int) ≤ n % 64 := by omega
   have hr : (0 : Int) ≤ n / 64 ∧ n / 64 < 4 := by omega
   rw [if_pos (decide_eq_true h1), shr6 h0, hm, if_pos hr, decide_eq_true (show 0 ≤ n ∧ n < 256 from ⟨h0, h1⟩), Bool.true_and]
   simp only [if_pos hn, hbit]
   unfold W4.has W4.sel
   by_cases k0 : n / 64 = 0
   ·simp [k0, jn]
   ·by_cases k1 : n / 64 = 1
    ·simp [k1, jn]
    ·by_cases k2 : n / 64 = 2
     ·simp [k2, jn]
     ·simp [k0, k1, k2, jn]
  ·rw [if_neg (by simp; omega), decide_eq_false (by omega)]
   rfl
 ·rw [if_neg h0, Q12, if_neg (by simp), decide_eq_false (by omega)]
  rfl
end Go.Bw
namespace Go.Bw
open Go Go.RowKit

def Hx (z : List Q2) (m : List (Bs × Q0)) : Prop := ∀ k, ∃ u : W4, (mget m k).getD set0 = u.s ∧ u.Rep (fun t => ∃ p ∈ z, p.Name = k ∧ t ∈ p.States)
theorem Q290 (z : List Q2) (hz : (z.length : Int) ≤ 9223372036854775807) (hs : ∀ p ∈ z, (p.States.length : Int) ≤ 9223372036854775807) (hd : ∀ i j : Int, 0 ≤ i → i < j → j < (z.length : Int) → (gt z i).Name ≠ (gt z j).Name) :
 ∃ m, Q17.l0 z [] 0 = some (.inl m) ∧ Hx z m := by
 obtain ⟨r, hr, m, rfl, hm⟩ := Q35 (body := fun t_ : List (Bs × Q0) × Int => Q17.l0b z t_.1 t_.2) (fun s => 0 ≤ s.2 ∧ s.2 ≤ (z.length : Int) ∧ Hx (z.take s.2.toNat) s.1)
  (fun r => ∃ m, r = .inl m ∧ Hx z m) (fun s => ((z.length : Int) - s.2).toNat) (fun ⟨m, i⟩ ⟨h0, h1, h2⟩ => by
   dsimp only at h0 h1 h2 ⊢
   unfold Q17.l0b
   by_cases hi : i < (z.length : Int)
   ·right
    obtain ⟨u, hu, hur⟩ := of_run4 (hs _ (Q48 h0 hi))
    rw [if_pos hi, if_pos ⟨h0, hi⟩, hu, wrap64 (x := i + 1) (by omega) (by omega)]
    refine ⟨_, rfl, ⟨by dsimp only; omega, by dsimp only; omega, fun k => ?_⟩, by dsimp only; omega⟩
    dsimp only
    rw [show (i + 1).toNat = i.toNat + 1 from by omega, List.take_add_one, Q68 h0 hi, Q211]
    by_cases hk : (gt z i).Name = k
    ·rw [if_pos hk]
     refine ⟨u, rfl, fun n n0 n1 => ?_⟩
     rw [hur n n0 n1]
     constructor
     ·intro h; exact ⟨gt z i, by simp, hk, h⟩
     ·rintro ⟨p, hp, e1, e2⟩
      rcases List.mem_append.1 hp with hp | hp
      ·obtain ⟨q, hq, rfl⟩ := List.getElem_of_mem hp
       have hq' : q < i.toNat := by simp at hq; omega
       have hq2 : q < z.length := by simp at hq; omega
       have := hd q i (by omega) (by omega) hi
       rw [Q95 (List.getElem?_eq_getElem hq2)] at this
       simp only [List.getElem_take] at e1
       exact absurd (e1.trans hk.symm) this
      ·simp at hp; subst hp; exact e2
    ·rw [if_neg hk]
     obtain ⟨v, hv, hvr⟩ := h2 k
     refine ⟨v, hv, fun n n0 n1 => ?_⟩
     rw [hvr n n0 n1]
     constructor
     ·rintro ⟨p, a, b⟩; exact ⟨p, by simp [a], b⟩
     ·rintro ⟨p, a, b, c⟩
      rcases List.mem_append.1 a with a | a
      ·exact ⟨p, a, b, c⟩
      ·simp at a; subst a; exact absurd b hk
   ·left
    rw [if_neg hi]
    rw [List.take_of_length_le (by omega)] at h2
    exact ⟨_, rfl, m, rfl, h2⟩) ([], 0) ⟨Int.le_refl _, by dsimp only; omega, fun k => ⟨W4.z, rfl, fun n n0 n1 => by
     rw [W4.z_rep n n0 n1]
     simp⟩⟩
 exact ⟨m, hr, hm⟩
end Go.Bw
namespace Go.Bw
open Go Go.RowKit

theorem Q168 {κ ν : Type} [DecidableEq κ] : ∀ (m : List (κ × ν)) (k k' : κ) (v : ν), mget (mset m k v) k' = if k = k' then some v else mget m k'
 | [], k, k', v => by unfold mset mget; split <;> rfl
 | p :: r, k, k', v => by
  unfold mset
  by_cases h : p.1 = k
  ·rw [if_pos h]
   unfold mget
   by_cases h2 : k = k'
   ·simp [h2]
   ·rw [if_neg h2, if_neg h2, if_neg (fun h3 => h2 (h.symm.trans h3))]
  ·rw [if_neg h]
   unfold mget
   by_cases h2 : p.1 = k'
   ·rw [if_pos h2, if_pos h2, if_neg (fun h3 => h (h2.trans h3.symm))]
   ·rw [if_neg h2, if_neg h2, Q168 r k k' v]
theorem Q292 {κ ν : Type} [DecidableEq κ] : ∀ (m : List (κ × ν)) (k : κ) (v : ν), mget m k = none → (mset m k v).length = m.length + 1
 | [], k, v, _ => rfl
 | p :: r, k, v, h => by
  unfold mget at h
  unfold mset
  by_cases h2 : p.1 = k
  ·rw [if_pos h2] at h; cases h
  ·rw [if_neg h2] at h
   rw [if_neg h2, List.length_cons, Q292 r k v h, List.length_cons]
section
variable {κ : Type} [DecidableEq κ] {key : Int → κ}
structure NInv (key : Int → κ) (n i : Int) (l : List Int) (mp : List (κ × Int)) : Prop where
 len : (l.length : Int) = n
 at_ : ∀ j : Int, 0 ≤ j → j < i → mget mp (key j) = some (gt l j)
 old : ∀ k v, mget mp k = some v → 0 ≤ v ∧ v < (mp.length : Int) ∧ ∃ j : Int, 0 ≤ j ∧ j < i ∧ key j = k
 inj : ∀ k k' v, mget mp k = some v → mget mp k' = some v → k = k'
 can : ∀ j : Int, 0 ≤ j → j < i → ∀ v : Int, 0 ≤ v → v < gt l j → ∃ q : Int, 0 ≤ q ∧ q < j ∧ gt l q = v
 all : ∀ v : Int, 0 ≤ v → v < (mp.length : Int) → ∃ q : Int, 0 ≤ q ∧ q < i ∧ gt l q = v
theorem NInv.zero {n : Int} {l : List Int} (h : (l.length : Int) = n) : NInv key n 0 l ([] : List (κ × Int)) :=
 ⟨h, fun j h0 h1 => by omega, fun k v h => by simp [mget] at h, fun k k' v h => by simp [mget] at h, fun j h0 h1 => by omega, fun v h0 h1 => by simp at h1; omega⟩
theorem NInv.hit {n i v : Int} {l : List Int} {mp : List (κ × Int)} (h : NInv key n i l mp) (h0 : 0 ≤ i) (h1 : i < n) (hv : mget mp (key i) = some v) : NInv key n (i + 1) (st l i v) mp := by
 have hl := h.len
 have hlt : i < (l.length : Int) := by omega
 have hg : ∀ j : Int, 0 ≤ j → gt (st l i v) j = if j = i then v else gt l j := fun j hj => Q74 h0 hlt hj
 obtain ⟨v0, v1, jv, jv0, jv1, jv2⟩ := h.old _ _ hv
 have hjv : gt l jv = v := by
  have := h.at_ jv jv0 jv1
  rw [jv2, hv] at this
  exact (Option.some.inj this).symm
 refine ⟨by rw [Q87]; exact hl, fun j j0 j1 => ?_, fun k w hk => ?_, h.inj, fun j j0 j1 w w0 w1 => ?_, fun w w0 w1 => ?_⟩
 ·rw [hg j j0]
  by_cases hj : j = i
  ·rw [if_pos hj, hj]; exact hv
  ·rw [if_neg hj]; exact h.at_ j j0 (by omega)
 ·obtain ⟨a, b, q, q0, q1, q2⟩ := h.old k w hk
  exact ⟨a, b, q, q0, by omega, q2⟩
 ·rw [hg j j0] at w1
  by_cases hj : j = i
  ·rw [if_pos hj, ← hjv] at w1
   obtain ⟨q, q0, q1, q2⟩ := h.can jv jv0 jv1 w w0 w1
   exact ⟨q, q0, by omega, by rw [hg q q0, if_neg (by omega)]; exact q2⟩
  ·rw [if_neg hj] at w1
   obtain ⟨q, q0, q1, q2⟩ := h.can j j0 (by omega) w w0 w1
   exact ⟨q, q0, q1, by rw [hg q q0, if_neg (by omega)]; exact q2⟩
 ·obtain ⟨q, q0, q1, q2⟩ := h.all w w0 w1
  exact ⟨q, q0, by omega, by rw [hg q q0, if_neg (by omega)]; exact q2⟩
theorem NInv.new {n i : Int} {l : List Int} {mp : List (κ × Int)} (h : NInv key n i l mp) (h0 : 0 ≤ i) (h1 : i < n) (hv : mget mp (key i) = none) : NInv key n (i + 1) (st l i (mp.length : Int)) (mset mp (key i) (mp.length : Int)) := by
 have hl := h.len
 have hlt : i < (l.length : Int) := by omega
 have hg : ∀ j : Int, 0 ≤ j → gt (st l i (mp.length : Int)) j = if j = i then (mp.length : Int) else gt l j := fun j hj => Q74 h0 hlt hj
 have hml := Q292 mp (key i) (mp.length : Int) hv
 refine ⟨by rw [Q87]; exact hl, fun j j0 j1 => ?_, fun k w hk => ?_, fun k k' w hk hk' => ?_, fun j j0 j1 w w0 w1 => ?_, fun w w0 w1 => ?_⟩
 ·rw [hg j j0, Q168]
  by_cases hj : j = i
  ·rw [if_pos hj, hj, if_pos rfl]
  ·rw [if_neg hj]
   have := h.at_ j j0 (by omega)
   rw [if_neg (fun e => by rw [e, this] at hv; cases hv)]
   exact this
 ·rw [Q168] at hk
  by_cases e : key i = k
  ·rw [if_pos e] at hk
   obtain rfl := Option.some.inj hk
   exact ⟨by omega, by rw [hml]; omega, i, h0, by omega, e⟩
  ·rw [if_neg e] at hk
   obtain ⟨a, b, q, q0, q1, q2⟩ := h.old k w hk
   exact ⟨a, by rw [hml]; omega, q, q0, by omega, q2⟩
 ·rw [Q168] at hk hk'
  by_cases e : key i = k
  ·by_cases e' : key i = k'
   ·exact e.symm.trans e'
   ·rw [if_pos e] at hk
    rw [if_neg e'] at hk'
    obtain rfl := Option.some.inj hk
    have := (h.old _ _ hk').2.1
    omega
  ·rw [if_neg e] at hk
   by_cases e' : key i = k'
   ·rw [if_pos e'] at hk'
    obtain rfl := Option.some.inj hk'
    have := (h.old _ _ hk).2.1
    omega
   ·rw [if_neg e'] at hk'
    exact h.inj k k' w hk hk'
 ·rw [hg j j0] at w1
  by_cases hj : j = i
  ·rw [if_pos hj] at w1
   obtain ⟨q, q0, q1, q2⟩ := h.all w w0 w1
   exact ⟨q, q0, by omega, by rw [hg q q0, if_neg (by omega)]; exact q2⟩
  ·rw [if_neg hj] at w1
   obtain ⟨q, q0, q1, q2⟩ := h.can j j0 (by omega) w w0 w1
   exact ⟨q, q0, q1, by rw [hg q q0, if_neg (by omega)]; exact q2⟩
 ·rw [hml] at w1
  by_cases hw : w = (mp.length : Int)
  ·exact ⟨i, h0, by omega, by rw [hg i h0, if_pos rfl, hw]⟩
  ·obtain ⟨q, q0, q1, q2⟩ := h.all w w0 (by omega)
   exact ⟨q, q0, by omega, by rw [hg q q0, if_neg (by omega)]; exact q2⟩
structure NumBy (key : Int → κ) (n : Int) (l : List Int) : Prop where
 len : (l.length : Int) = n
 canon : Canon l
 iff : ∀ i j : Int, 0 ≤ i → i < n → 0 ≤ j → j < n → (gt l i = gt l j ↔ key i = key j)
theorem NInv.fin {n : Int} {l : List Int} {mp : List (κ × Int)} (h : NInv key n n l mp) : NumBy key n l := by
 refine ⟨h.len, fun i i0 i1 => ?_, fun i j i0 i1 j0 j1 => ⟨fun e => ?_, fun e => ?_⟩⟩
 ·rw [h.len] at i1
  exact ⟨(h.old _ _ (h.at_ i i0 i1)).1, h.can i i0 i1⟩
 ·exact h.inj _ _ _ (h.at_ i i0 i1) (by rw [e]; exact h.at_ j j0 j1)
 ·have a := h.at_ i i0 i1
  have b := h.at_ j j0 j1
  rw [e, b] at a
  exact (Option.some.inj a).symm
end
end Go.Bw
namespace Go.Bw
open Go Go.RowKit

def upd (f : Int → W4) (i : Int) (u : W4) : Int → W4 := fun j => if j = i then u else f j
def T32 (f : Int → W4) : Int × Int × Int × Int × Int × Int × Int × Int × Int × Int × Int × Int × Int × Int × Int × Int × Int × Int × Int × Int × Int × Int × Int × Int × Int × Int × Int × Int × Int × Int × Int × Int := (Wd (f 0).a, Wd (f 0).b, Wd (f 0).c, Wd (f 0).d, Wd (f 1).a, Wd (f 1).b, Wd (f 1).c, Wd (f 1).d, Wd (f 2).a, Wd (f 2).b, Wd (f 2).c, Wd (f 2).d, Wd (f 3).a, Wd (f 3).b, Wd (f 3).c, Wd (f 3).d, Wd (f 4).a, Wd (f 4).b, Wd (f 4).c, Wd (f 4).d, Wd (f 5).a, Wd (f 5).b, Wd (f 5).c, Wd (f 5).d, Wd (f 6).a, Wd (f 6).b, Wd (f 6).c, Wd (f 6).d, Wd (f 7).a, Wd (f 7).b, Wd (f 7).c, Wd (f 7).d)
def T33 (f : Int → W4) (p : Int) : Int × Int × Int × Int × Int × Int × Int × Int × Int × Int × Int × Int × Int × Int × Int × Int × Int × Int × Int × Int × Int × Int × Int × Int × Int × Int × Int × Int × Int × Int × Int × Int × Int := (Wd (f 0).a, Wd (f 0).b, Wd (f 0).c, Wd (f 0).d, Wd (f 1).a, Wd (f 1).b, Wd (f 1).c, Wd (f 1).d, Wd (f 2).a, Wd (f 2).b, Wd (f 2).c, Wd (f 2).d, Wd (f 3).a, Wd (f 3).b, Wd (f 3).c, Wd (f 3).d, Wd (f 4).a, Wd (f 4).b, Wd (f 4).c, Wd (f 4).d, Wd (f 5).a, Wd (f 5).b, Wd (f 5).c, Wd (f 5).d, Wd (f 6).a, Wd (f 6).b, Wd (f 6).c, Wd (f 6).d, Wd (f 7).a, Wd (f 7).b, Wd (f 7).c, Wd (f 7).d, p)
def O33 (o : Option Q3) (f : Int → W4) : Option Q3 × Int × Int × Int × Int × Int × Int × Int × Int × Int × Int × Int × Int × Int × Int × Int × Int × Int × Int × Int × Int × Int × Int × Int × Int × Int × Int × Int × Int × Int × Int × Int × Int := (o, Wd (f 0).a, Wd (f 0).b, Wd (f 0).c, Wd (f 0).d, Wd (f 1).a, Wd (f 1).b, Wd (f 1).c, Wd (f 1).d, Wd (f 2).a, Wd (f 2).b, Wd (f 2).c, Wd (f 2).d, Wd (f 3).a, Wd (f 3).b, Wd (f 3).c, Wd (f 3).d, Wd (f 4).a, Wd (f 4).b, Wd (f 4).c, Wd (f 4).d, Wd (f 5).a, Wd (f 5).b, Wd (f 5).c, Wd (f 5).d, Wd (f 6).a, Wd (f 6).b, Wd (f 6).c, Wd (f 6).d, Wd (f 7).a, Wd (f 7).b, Wd (f 7).c, Wd (f 7).d)
def O34 (o : Option Q3) (f : Int → W4) (p : Int) : Option Q3 × Int × Int × Int × Int × Int × Int × Int × Int × Int × Int × Int × Int × Int × Int × Int × Int × Int × Int × Int × Int × Int × Int × Int × Int × Int × Int × Int × Int × Int × Int × Int × Int × Int := (o, Wd (f 0).a, Wd (f 0).b, Wd (f 0).c, Wd (f 0).d, Wd (f 1).a, Wd (f 1).b, Wd (f 1).c, Wd (f 1).d, Wd (f 2).a, Wd (f 2).b, Wd (f 2).c, Wd (f 2).d, Wd (f 3).a, Wd (f 3).b, Wd (f 3).c, Wd (f 3).d, Wd (f 4).a, Wd (f 4).b, Wd (f 4).c, Wd (f 4).d, Wd (f 5).a, Wd (f 5).b, Wd (f 5).c, Wd (f 5).d, Wd (f 6).a, Wd (f 6).b, Wd (f 6).c, Wd (f 6).d, Wd (f 7).a, Wd (f 7).b, Wd (f 7).c, Wd (f 7).d, p)
theorem Q179 {σ ρ : Type} {body : σ → Option (σ ⊕ ρ)} {s s' : σ} (h : body s = some (.inl s')) : iter body s = iter body s' := by rw [Q70, h]; rfl
theorem Q174 {σ ρ : Type} {body : σ → Option (σ ⊕ ρ)} {s : σ} {r : ρ} (h : body s = some (.inr r)) : iter body s = some r := by rw [Q70, h]; rfl
def putc (u : W4) (c : Int) : W4 := if 0 ≤ c ∧ c < 256 then u.put c else u
theorem Q119 (u : W4) (c : Int) : Q21.f (Wd u.a) (Wd u.b) (Wd u.c) (Wd u.d) c = some (putc u c).t := Q175
theorem sg_l1b (l : List Int) {i : Int} (h0 : 0 ≤ i) (h1 : i < 8) (L : List Int) (f : Int → W4) {p : Int} (p0 : 0 ≤ p) (p1 : p < (L.length : Int)) (hL : (L.length : Int) ≤ 256) (g0 : 0 ≤ gt L p) (g1 : gt L p < (l.length : Int)) :
 Q24.l1b l i L (Wd (f 0).a) (Wd (f 0).b) (Wd (f 0).c) (Wd (f 0).d) (Wd (f 1).a) (Wd (f 1).b) (Wd (f 1).c) (Wd (f 1).d) (Wd (f 2).a) (Wd (f 2).b) (Wd (f 2).c) (Wd (f 2).d) (Wd (f 3).a) (Wd (f 3).b) (Wd (f 3).c) (Wd (f 3).d) (Wd (f 4).a) (Wd (f 4).b) (Wd (f 4).c) (Wd (f 4).d) (Wd (f 5).a) (Wd (f 5).b) (Wd (f 5).c) (Wd (f 5).d) (Wd (f 6).a) (Wd (f 6).b) (Wd (f 6).c) (Wd (f 6).d) (Wd (f 7).a) (Wd (f 7).b) (Wd (f 7).c) (Wd (f 7).d) p = some (.inl (T33 (upd f i (putc (f i) (gt l (gt L p)))) (p + 1))) := by
 have hw : IntKind.i64.wrap (p + 1) = p + 1 := wrap64 (by omega) (by omega)
 unfold Q24.l1b
 rw [if_pos p1, if_pos ⟨p0, p1⟩, if_pos ⟨h0, h1⟩]
 have hi : i = 0 ∨ i = 1 ∨ i = 2 ∨ i = 3 ∨ i = 4 ∨ i = 5 ∨ i = 6 ∨ i = 7 := by omega
 rcases hi with rfl | rfl | rfl | rfl | rfl | rfl | rfl | rfl
 ·rw [if_pos (rfl : (0 : Int) = 0)]; rw [if_pos ⟨g0, g1⟩, Q119, Option.bind_some, Q12, hw]; rfl
 ·rw [if_neg (show ¬ ((1 : Int) = 0) by decide)]; rw [if_pos (rfl : (1 : Int) = 1)]; rw [if_pos ⟨g0, g1⟩, Q119, Option.bind_some, Q12, hw]; rfl
 ·rw [if_neg (show ¬ ((2 : Int) = 0) by decide)]; rw [if_neg (show ¬ ((2 : Int) = 1) by decide)]; rw [if_pos (rfl : (2 : Int) = 2)]; rw [if_pos ⟨g0, g1⟩, Q119, Option.bind_some, Q12, hw]; rfl
 ·rw [if_neg (show ¬ ((3 : Int) = 0) by decide)]; rw [if_neg (show ¬ ((3 : Int) = 1) by decide)]; rw [if_neg (show ¬ ((3 : Int) = 2) by decide)]; rw [if_pos (rfl : (3 : Int) = 3)]; rw [if_pos ⟨g0, g1⟩, Q119, Option.bind_some, Q12, hw]; rfl
 ·rw [if_neg (show ¬ ((4 : Int) = 0) by decide)]; rw [if_neg (show ¬ ((4 : Int) = 1) by decide)]; rw [if_neg (show ¬ ((4 : Int) = 2) by decide)]; rw [if_neg (show ¬ ((4 : Int) = 3) by decide)]; rw [if_pos (rfl : (4 : Int) = 4)]; rw [if_pos ⟨g0, g1⟩, Q119, Option.bind_some, Q12, hw]; rfl
 ·rw [if_neg (show ¬ ((5 : Int) = 0) by decide)]; rw [if_neg (show ¬ ((5 : Int) = 1) by decide)]; rw [if_neg (show ¬ ((5 : Int) = 2) by decide)]; rw [if_neg (show ¬ ((5 : Int) = 3) by decide)]; rw [if_neg (show ¬ ((5 : Int) = 4) by decide)]; rw [if_pos (rfl : (5 : Int) = 5)]; rw [if_pos ⟨g0, g1⟩, Q119, Option.bind_some, Q12, hw]; rfl
 ·rw [if_neg (show ¬ ((6 : Int) = 0) by decide)]; rw [if_neg (show ¬ ((6 : Int) = 1) by decide)]; rw [if_neg (show ¬ ((6 : Int) = 2) by decide)]; rw [if_neg (show ¬ ((6 : Int) = 3) by decide)]; rw [if_neg (show ¬ ((6 : Int) = 4) by decide)]; rw [if_neg (show ¬ ((6 : Int) = 5) by decide)]; rw [if_pos (rfl : (6 : Int) = 6)]; rw [if_pos ⟨g0, g1⟩, Q119, Option.bind_some, Q12, hw]; rfl
 ·rw [if_neg (show ¬ ((7 : Int) = 0) by decide)]; rw [if_neg (show ¬ ((7 : Int) = 1) by decide)]; rw [if_neg (show ¬ ((7 : Int) = 2) by decide)]; rw [if_neg (show ¬ ((7 : Int) = 3) by decide)]; rw [if_neg (show ¬ ((7 : Int) = 4) by decide)]; rw [if_neg (show ¬ ((7 : Int) = 5) by decide)]; rw [if_neg (show ¬ ((7 : Int) = 6) by decide)]; rw [if_pos ⟨g0, g1⟩, Q119, Option.bind_some, Q12, hw]; rfl
theorem sg_l1 (l : List Int) {i : Int} (h0 : 0 ≤ i) (h1 : i < 8) (L : List Int) (hL : (L.length : Int) ≤ 256) (hin : ∀ t ∈ L, 0 ≤ t ∧ t < (l.length : Int)) (f : Int → W4) :
 Q24.l1 l i L (Wd (f 0).a) (Wd (f 0).b) (Wd (f 0).c) (Wd (f 0).d) (Wd (f 1).a) (Wd (f 1).b) (Wd (f 1).c) (Wd (f 1).d) (Wd (f 2).a) (Wd (f 2).b) (Wd (f 2).c) (Wd (f 2).d) (Wd (f 3).a) (Wd (f 3).b) (Wd (f 3).c) (Wd (f 3).d) (Wd (f 4).a) (Wd (f 4).b) (Wd (f 4).c) (Wd (f 4).d) (Wd (f 5).a) (Wd (f 5).b) (Wd (f 5).c) (Wd (f 5).d) (Wd (f 6).a) (Wd (f 6).b) (Wd (f 6).c) (Wd (f 6).d) (Wd (f 7).a) (Wd (f 7).b) (Wd (f 7).c) (Wd (f 7).d) 0 = some (.inl (T32 (upd f i (L.foldl (fun u t => putc u (gt l t)) (f i))))) := by
 have upd2 : ∀ (u v : W4), upd (upd f i u) i v = upd f i v := fun u v => by funext j; unfold upd; split <;> rfl
 have updi : ∀ (u : W4), upd f i u i = u := fun u => by unfold upd; rw [if_pos rfl]
 have upds : upd f i (f i) = f := by funext j; unfold upd; split <;> simp_all
 have key : ∀ (q : Nat) (p : Int), 0 ≤ p → (L.length : Int) - p = q → ∀ u : W4, iter (fun t_ : Int × Int × Int × Int × Int × Int × Int × Int × Int × Int × Int × Int × Int × Int × Int × Int × Int × Int × Int × Int × Int × Int × Int × Int × Int × Int × Int × Int × Int × Int × Int × Int × Int => Q24.l1b l i L t_.1 t_.2.1 t_.2.2.1 t_.2.2.2.1 t_.2.2.2.2.1 t_.2.2.2.2.2.1 t_.2.2.2.2.2.2.1 t_.2.2.2.2.2.2.2.1 (d8 t_).1 (d8 t_).2.1 (d8 t_).2.2.1 (d8 t_).2.2.2.1 (d8 t_).2.2.2.2.1 (d8 t_).2.2.2.2.2.1 (d8 t_).2.2.2.2.2.2.1 (d8 t_).2.2.2.2.2.2.2.1 (d8 (d8 t_)).1 (d8 (d8 t_)).2.1 (d8 (d8 t_)).2.2.1 (d8 (d8 t_)).2.2.2.1 (d8 (d8 t_)).2.2.2.2.1 (d8 (d8 t_)).2.2.2.2.2.1 (d8 (d8 t_)).2.2.2.2.2.2.1 (d8 (d8 t_)).2.2.2.2.2.2.2.1 (d8 (d8 (d8 t_))).1 (d8 (d8 (d8 t_))).2.1 (d8 (d8 (d8 t_))).2.2.1 (d8 (d8 (d8 t_))).2.2.2.1 (d8 (d8 (d8 t_))).2.2.2.2.1 (d8 (d8 (d8 t_))).2.2.2.2.2.1 (d8 (d8 (d8 t_))).2.2.2.2.2.2.1 (d8 (d8 (d8 t_))).2.2.2.2.2.2.2.1 (d8 (d8 (d8 (d8 t_))))) (T33 (upd f i u) p) = some (.inl (T32 (upd f i ((L.drop p.toNat).foldl (fun u t => putc u (gt l t)) u)))) := fun q => by
  induction q with
  | zero =>
   intro p p0 pq u
   have hn : ¬ p < (L.length : Int) := by omega
   have hb : Q24.l1b l i L (Wd (upd f i u 0).a) (Wd (upd f i u 0).b) (Wd (upd f i u 0).c) (Wd (upd f i u 0).d) (Wd (upd f i u 1).a) (Wd (upd f i u 1).b) (Wd (upd f i u 1).c) (Wd (upd f i u 1).d) (Wd (upd f i u 2).a) (Wd (upd f i u 2).b) (Wd (upd f i u 2).c) (Wd (upd f i u 2).d) (Wd (upd f i u 3).a) (Wd (upd f i u 3).b) (Wd (upd f i u 3).c) (Wd (upd f i u 3).d) (Wd (upd f i u 4).a) (Wd (upd f i u 4).b) (Wd (upd f i u 4).c) (Wd (upd f i u 4).d) (Wd (upd f i u 5).a) (Wd (upd f i u 5).b) (Wd (upd f i u 5).c) (Wd (upd f i u 5).d) (Wd (upd f i u 6).a) (Wd (upd f i u 6).b) (Wd (upd f i u 6).c) (Wd (upd f i u 6).d) (Wd (upd f i u 7).a) (Wd (upd f i u 7).b) (Wd (upd f i u 7).c) (Wd (upd f i u 7).d) p = some (.inr (.inl (T32 (upd f i u)))) := by
    unfold Q24.l1b
    rw [if_neg hn]
    rfl
   rw [List.drop_of_length_le (by omega)]
   exact Q174 (body := fun t_ : Int × Int × Int × Int × Int × Int × Int × Int × Int × Int × Int × Int × Int × Int × Int × Int × Int × Int × Int × Int × Int × Int × Int × Int × Int × Int × Int × Int × Int × Int × Int × Int × Int => Q24.l1b l i L t_.1 t_.2.1 t_.2.2.1 t_.2.2.2.1 t_.2.2.2.2.1 t_.2.2.2.2.2.1 t_.2.2.2.2.2.2.1 t_.2.2.2.2.2.2.2.1 (d8 t_).1 (d8 t_).2.1 (d8 t_).2.2.1 (d8 t_).2.2.2.1 (d8 t_).2.2.2.2.1 (d8 t_).2.2.2.2.2.1 (d8 t_).2.2.2.2.2.2.1 (d8 t_).2.2.2.2.2.2.2.1 (d8 (d8 t_)).1 (d8 (d8 t_)).2.1 (d8 (d8 t_)).2.2.1 (d8 (d8 t_)).2.2.2.1 (d8 (d8 t_)).2.2.2.2.1 (d8 (d8 t_)).2.2.2.2.2.1 (d8 (d8 t_)).2.2.2.2.2.2.1 (d8 (d8 t_)).2.2.2.2.2.2.2.1 (d8 (d8 (d8 t_))).1 (d8 (d8 (d8 t_))).2.1 (d8 (d8 (d8 t_))).2.2.1 (d8 (d8 (d8 t_))).2.2.2.1 (d8 (d8 (d8 t_))).2.2.2.2.1 (d8 (d8 (d8 t_))).2.2.2.2.2.1 (d8 (d8 (d8 t_))).2.2.2.2.2.2.1 (d8 (d8 (d8 t_))).2.2.2.2.2.2.2.1 (d8 (d8 (d8 (d8 t_))))) hb
  | succ q ih =>
   intro p p0 pq u
   have hp : p < (L.length : Int) := by omega
   have hm := hin _ (Q48 p0 hp)
   have hb := sg_l1b l h0 h1 L (upd f i u) p0 hp hL hm.1 hm.2
   rw [updi, upd2] at hb
   rw [Q179 (body := fun t_ : Int × Int × Int × Int × Int × Int × Int × Int × Int × Int × Int × Int × Int × Int × Int × Int × Int × Int × Int × Int × Int × Int × Int × Int × Int × Int × Int × Int × Int × Int × Int × Int × Int => Q24.l1b l i L t_.1 t_.2.1 t_.2.2.1 t_.2.2.2.1 t_.2.2.2.2.1 t_.2.2.2.2.2.1 t_.2.2.2.2.2.2.1 t_.2.2.2.2.2.2.2.1 (d8 t_).1 (d8 t_).2.1 (d8 t_).2.2.1 (d8 t_).2.2.2.1 (d8 t_).2.2.2.2.1 (d8 t_).2.2.2.2.2.1 (d8 t_).2.2.2.2.2.2.1 (d8 t_).2.2.2.2.2.2.2.1 (d8 (d8 t_)).1 (d8 (d8 t_)).2.1 (d8 (d8 t_)).2.2.1 (d8 (d8 t_)).2.2.2.1 (d8 (d8 t_)).2.2.2.2.1 (d8 (d8 t_)).2.2.2.2.2.1 (d8 (d8 t_)).2.2.2.2.2.2.1 (d8 (d8 t_)).2.2.2.2.2.2.2.1 (d8 (d8 (d8 t_))).1 (d8 (d8 (d8 t_))).2.1 (d8 (d8 (d8 t_))).2.2.1 (d8 (d8 (d8 t_))).2.2.2.1 (d8 (d8 (d8 t_))).2.2.2.2.1 (d8 (d8 (d8 t_))).2.2.2.2.2.1 (d8 (d8 (d8 t_))).2.2.2.2.2.2.1 (d8 (d8 (d8 t_))).2.2.2.2.2.2.2.1 (d8 (d8 (d8 (d8 t_))))) (s := T33 (upd f i u) p) (s' := T33 (upd f i (putc u (gt l (gt L p)))) (p + 1)) hb]
   have := ih (p + 1) (by omega) (by omega) (putc u (gt l (gt L p)))
   have hd : L.drop p.toNat = gt L p :: L.drop (p + 1).toNat := by
    rw [show (p + 1).toNat = p.toNat + 1 from by omega]
    have h2 := List.drop_eq_getElem_cons (l := L) (i := p.toNat) (by omega)
    rw [h2]
    congr 1
    have h3 := Q68 p0 hp
    rw [List.getElem?_eq_getElem (by omega)] at h3
    exact Option.some.inj h3
   rw [hd, List.foldl_cons]
   exact this
 have := key L.length 0 (by decide) (by omega) (f i)
 rw [upds] at this
 exact this
end Go.Bw
namespace Go.Bw
open Go Go.RowKit

section
variable {n : Int} {x : List Bs} {y : List Q1} {next : List (Q7 × Q0)} {holds : List (Bs × Q0)}
noncomputable def nxW (hx : Nx x y next) (s : Int) (a : Bs) : W4 := (hx ⟨s, a⟩).choose
theorem Q222 (hx : Nx x y next) (s : Int) (a : Bs) : (nxW hx s a).Rep (Hit x y ⟨s, a⟩) := (hx ⟨s, a⟩).choose_spec.2
theorem nxW_run (hx : Nx x y next) (n : Int) (holds : List (Bs × Q0)) (s : Int) (a : Bs) : Q120.f n holds next s a = some (nxW hx s a).t := by
 have h := (hx ⟨s, a⟩).choose_spec.1
 unfold Q120.f
 rw [h]
 rfl
theorem nxW_in (hx : Nx x y next) (hn : n ≤ 24) (he : ∀ e ∈ y, EdgeIn n x.length e) {s : Int} {a : Bs} {t : Int} (h : t ∈ (nxW hx s a).list) : 0 ≤ t ∧ t < n := by
 obtain ⟨_, _, e, h1, _, h2, _⟩ := (Q181 (Q222 hx s a)).1 h
 have h2' : e.To = t := h2
 have := (he e h1).2.2
 omega
noncomputable def sgF (hx : Nx x y next) (l : List Int) (s m : Int) : Int → W4 := fun j => if 0 ≤ j ∧ j < m then (nxW hx s (gt x j)).list.foldl (fun u t => putc u (gt l t)) W4.z else W4.z
theorem sgF_zero (hx : Nx x y next) (l : List Int) (s : Int) : sgF hx l s 0 = fun _ => W4.z := by funext j; unfold sgF; rw [if_neg (by omega)]
theorem sgF_step (hx : Nx x y next) (l : List Int) (s : Int) {i : Int} (h0 : 0 ≤ i) : upd (sgF hx l s i) i ((nxW hx s (gt x i)).list.foldl (fun u t => putc u (gt l t)) (sgF hx l s i i)) = sgF hx l s (i + 1) := by
 have hz : sgF hx l s i i = W4.z := by unfold sgF; rw [if_neg (by omega)]
 rw [hz]
 funext j
 unfold upd sgF
 by_cases hj : j = i
 ·subst hj
  rw [if_pos rfl, if_pos (by omega)]
 ·rw [if_neg hj]
  by_cases h1 : 0 ≤ j ∧ j < i
  ·rw [if_pos h1, if_pos (by omega)]
  ·rw [if_neg h1, if_neg (by omega)]
theorem sg_l0 (hx : Nx x y next) (hn : n ≤ 24) (hl8 : x.length ≤ 8) (he : ∀ e ∈ y, EdgeIn n x.length e) (l : List Int) (hl : (l.length : Int) = n) (s : Int) : ∀ (q : Nat) (i : Int), 0 ≤ i → (x.length : Int) - i = q →
 iter (fun t_ : Option Q3 × Int × Int × Int × Int × Int × Int × Int × Int × Int × Int × Int × Int × Int × Int × Int × Int × Int × Int × Int × Int × Int × Int × Int × Int × Int × Int × Int × Int × Int × Int × Int × Int × Int => Q24.l0b s l x t_.1 t_.2.1 t_.2.2.1 t_.2.2.2.1 t_.2.2.2.2.1 t_.2.2.2.2.2.1 t_.2.2.2.2.2.2.1 t_.2.2.2.2.2.2.2.1 (d8 t_).1 (d8 t_).2.1 (d8 t_).2.2.1 (d8 t_).2.2.2.1 (d8 t_).2.2.2.2.1 (d8 t_).2.2.2.2.2.1 (d8 t_).2.2.2.2.2.2.1 (d8 t_).2.2.2.2.2.2.2.1 (d8 (d8 t_)).1 (d8 (d8 t_)).2.1 (d8 (d8 t_)).2.2.1 (d8 (d8 t_)).2.2.2.1 (d8 (d8 t_)).2.2.2.2.1 (d8 (d8 t_)).2.2.2.2.2.1 (d8 (d8 t_)).2.2.2.2.2.2.1 (d8 (d8 t_)).2.2.2.2.2.2.2.1 (d8 (d8 (d8 t_))).1 (d8 (d8 (d8 t_))).2.1 (d8 (d8 (d8 t_))).2.2.1 (d8 (d8 (d8 t_))).2.2.2.1 (d8 (d8 (d8 t_))).2.2.2.2.1 (d8 (d8 (d8 t_))).2.2.2.2.2.1 (d8 (d8 (d8 t_))).2.2.2.2.2.2.1 (d8 (d8 (d8 t_))).2.2.2.2.2.2.2.1 (d8 (d8 (d8 (d8 t_)))).1 (d8 (d8 (d8 (d8 t_)))).2) (O34 (some ⟨n, holds, next⟩) (sgF hx l s i) i) = some (.inl (O33 (some ⟨n, holds, next⟩) (sgF hx l s x.length))) := fun q => by
 induction q with
 | zero =>
  intro i i0 iq
  have hb : Q24.l0b s l x (some ⟨n, holds, next⟩) (Wd (sgF hx l s i 0).a) (Wd (sgF hx l s i 0).b) (Wd (sgF hx l s i 0).c) (Wd (sgF hx l s i 0).d) (Wd (sgF hx l s i 1).a) (Wd (sgF hx l s i 1).b) (Wd (sgF hx l s i 1).c) (Wd (sgF hx l s i 1).d) (Wd (sgF hx l s i 2).a) (Wd (sgF hx l s i 2).b) (Wd (sgF hx l s i 2).c) (Wd (sgF hx l s i 2).d) (Wd (sgF hx l s i 3).a) (Wd (sgF hx l s i 3).b) (Wd (sgF hx l s i 3).c) (Wd (sgF hx l s i 3).d) (Wd (sgF hx l s i 4).a) (Wd (sgF hx l s i 4).b) (Wd (sgF hx l s i 4).c) (Wd (sgF hx l s i 4).d) (Wd (sgF hx l s i 5).a) (Wd (sgF hx l s i 5).b) (Wd (sgF hx l s i 5).c) (Wd (sgF hx l s i 5).d) (Wd (sgF hx l s i 6).a) (Wd (sgF hx l s i 6).b) (Wd (sgF hx l s i 6).c) (Wd (sgF hx l s i 6).d) (Wd (sgF hx l s i 7).a) (Wd (sgF hx l s i 7).b) (Wd (sgF hx l s i 7).c) (Wd (sgF hx l s i 7).d) i = some (.inr (.inl (O33 (some ⟨n, holds, next⟩) (sgF hx l s i)))) := by
   unfold Q24.l0b
   rw [if_neg (by omega)]
   rfl
  have hq := Q174 (body := fun t_ : Option Q3 × Int × Int × Int × Int × Int × Int × Int × Int × Int × Int × Int × Int × Int × Int × Int × Int × Int × Int × Int × Int × Int × Int × Int × Int × Int × Int × Int × Int × Int × Int × Int × Int × Int => Q24.l0b s l x t_.1 t_.2.1 t_.2.2.1 t_.2.2.2.1 t_.2.2.2.2.1 t_.2.2.2.2.2.1 t_.2.2.2.2.2.2.1 t_.2.2.2.2.2.2.2.1 (d8 t_).1 (d8 t_).2.1 (d8 t_).2.2.1 (d8 t_).2.2.2.1 (d8 t_).2.2.2.2.1 (d8 t_).2.2.2.2.2.1 (d8 t_).2.2.2.2.2.2.1 (d8 t_).2.2.2.2.2.2.2.1 (d8 (d8 t_)).1 (d8 (d8 t_)).2.1 (d8 (d8 t_)).2.2.1 (d8 (d8 t_)).2.2.2.1 (d8 (d8 t_)).2.2.2.2.1 (d8 (d8 t_)).2.2.2.2.2.1 (d8 (d8 t_)).2.2.2.2.2.2.1 (d8 (d8 t_)).2.2.2.2.2.2.2.1 (d8 (d8 (d8 t_))).1 (d8 (d8 (d8 t_))).2.1 (d8 (d8 (d8 t_))).2.2.1 (d8 (d8 (d8 t_))).2.2.2.1 (d8 (d8 (d8 t_))).2.2.2.2.1 (d8 (d8 (d8 t_))).2.2.2.2.2.1 (d8 (d8 (d8 t_))).2.2.2.2.2.2.1 (d8 (d8 (d8 t_))).2.2.2.2.2.2.2.1 (d8 (d8 (d8 (d8 t_)))).1 (d8 (d8 (d8 (d8 t_)))).2) (s := O34 (some ⟨n, holds, next⟩) (sgF hx l s i) i) hb
  rw [hq, show i = (x.length : Int) from by omega]
 | succ q ih =>
  intro i i0 iq
  have hi : i < (x.length : Int) := by omega
  have h1 := sg_l1 l i0 (by omega) (nxW hx s (gt x i)).list (by have := list_len (nxW hx s (gt x i)); omega) (fun t ht => by have := nxW_in hx hn he ht; omega) (sgF hx l s i)
  rw [sgF_step hx l s i0] at h1
  have hb : Q24.l0b s l x (some ⟨n, holds, next⟩) (Wd (sgF hx l s i 0).a) (Wd (sgF hx l s i 0).b) (Wd (sgF hx l s i 0).c) (Wd (sgF hx l s i 0).d) (Wd (sgF hx l s i 1).a) (Wd (sgF hx l s i 1).b) (Wd (sgF hx l s i 1).c) (Wd (sgF hx l s i 1).d) (Wd (sgF hx l s i 2).a) (Wd (sgF hx l s i 2).b) (Wd (sgF hx l s i 2).c) (Wd (sgF hx l s i 2).d) (Wd (sgF hx l s i 3).a) (Wd (sgF hx l s i 3).b) (Wd (sgF hx l s i 3).c) (Wd (sgF hx l s i 3).d) (Wd (sgF hx l s i 4).a) (Wd (sgF hx l s i 4).b) (Wd (sgF hx l s i 4).c) (Wd (sgF hx l s i 4).d) (Wd (sgF hx l s i 5).a) (Wd (sgF hx l s i 5).b) (Wd (sgF hx l s i 5).c) (Wd (sgF hx l s i 5).d) (Wd (sgF hx l s i 6).a) (Wd (sgF hx l s i 6).b) (Wd (sgF hx l s i 6).c) (Wd (sgF hx l s i 6).d) (Wd (sgF hx l s i 7).a) (Wd (sgF hx l s i 7).b) (Wd (sgF hx l s i 7).c) (Wd (sgF hx l s i 7).d) i = some (.inl (O34 (some ⟨n, holds, next⟩) (sgF hx l s (i + 1)) (i + 1))) := by
   unfold Q24.l0b
   rw [if_pos hi, if_pos ⟨i0, hi⟩]
   simp only [Option.isNone_some, if_true, Option.getD_some, nxW_run hx, Option.bind_some, W4.t, Q268, h1, Q12]
   rw [wrap64 (x := i + 1) (by omega) (by omega)]
   rfl
  rw [Q179 (body := fun t_ : Option Q3 × Int × Int × Int × Int × Int × Int × Int × Int × Int × Int × Int × Int × Int × Int × Int × Int × Int × Int × Int × Int × Int × Int × Int × Int × Int × Int × Int × Int × Int × Int × Int × Int × Int => Q24.l0b s l x t_.1 t_.2.1 t_.2.2.1 t_.2.2.2.1 t_.2.2.2.2.1 t_.2.2.2.2.2.1 t_.2.2.2.2.2.2.1 t_.2.2.2.2.2.2.2.1 (d8 t_).1 (d8 t_).2.1 (d8 t_).2.2.1 (d8 t_).2.2.2.1 (d8 t_).2.2.2.2.1 (d8 t_).2.2.2.2.2.1 (d8 t_).2.2.2.2.2.2.1 (d8 t_).2.2.2.2.2.2.2.1 (d8 (d8 t_)).1 (d8 (d8 t_)).2.1 (d8 (d8 t_)).2.2.1 (d8 (d8 t_)).2.2.2.1 (d8 (d8 t_)).2.2.2.2.1 (d8 (d8 t_)).2.2.2.2.2.1 (d8 (d8 t_)).2.2.2.2.2.2.1 (d8 (d8 t_)).2.2.2.2.2.2.2.1 (d8 (d8 (d8 t_))).1 (d8 (d8 (d8 t_))).2.1 (d8 (d8 (d8 t_))).2.2.1 (d8 (d8 (d8 t_))).2.2.2.1 (d8 (d8 (d8 t_))).2.2.2.2.1 (d8 (d8 (d8 t_))).2.2.2.2.2.1 (d8 (d8 (d8 t_))).2.2.2.2.2.2.1 (d8 (d8 (d8 t_))).2.2.2.2.2.2.2.1 (d8 (d8 (d8 (d8 t_)))).1 (d8 (d8 (d8 (d8 t_)))).2) (s := O34 (some ⟨n, holds, next⟩) (sgF hx l s i) i) (s' := O34 (some ⟨n, holds, next⟩) (sgF hx l s (i + 1)) (i + 1)) hb]
  exact ih (i + 1) (by omega) (by omega)
def sgK (c : Int) (f : Int → W4) : Q18 := ⟨c, ⟨(f 0).s, (f 1).s, (f 2).s, (f 3).s, (f 4).s, (f 5).s, (f 6).s, (f 7).s⟩⟩
def O34' (o : Option Q3) (c : Int) (f : Int → W4) : Option Q3 × Int × Int × Int × Int × Int × Int × Int × Int × Int × Int × Int × Int × Int × Int × Int × Int × Int × Int × Int × Int × Int × Int × Int × Int × Int × Int × Int × Int × Int × Int × Int × Int × Int := (o, c, Wd (f 0).a, Wd (f 0).b, Wd (f 0).c, Wd (f 0).d, Wd (f 1).a, Wd (f 1).b, Wd (f 1).c, Wd (f 1).d, Wd (f 2).a, Wd (f 2).b, Wd (f 2).c, Wd (f 2).d, Wd (f 3).a, Wd (f 3).b, Wd (f 3).c, Wd (f 3).d, Wd (f 4).a, Wd (f 4).b, Wd (f 4).c, Wd (f 4).d, Wd (f 5).a, Wd (f 5).b, Wd (f 5).c, Wd (f 5).d, Wd (f 6).a, Wd (f 6).b, Wd (f 6).c, Wd (f 6).d, Wd (f 7).a, Wd (f 7).b, Wd (f 7).c, Wd (f 7).d)
theorem sg_run (hx : Nx x y next) (hn : n ≤ 24) (hl8 : x.length ≤ 8) (he : ∀ e ∈ y, EdgeIn n x.length e) (l : List Int) (hl : (l.length : Int) = n) (m : Int) (y' : List Q1) (z : List Q2) {s : Int} (s0 : 0 ≤ s) (s1 : s < n) :
 Q24.f s l m x y' z (some ⟨n, holds, next⟩) = some (O34' (some ⟨n, holds, next⟩) (gt l s) (sgF hx l s x.length)) := by
 have h := sg_l0 (holds := holds) hx hn hl8 he l hl s x.length 0 (by decide) (by omega)
 rw [sgF_zero] at h
 have h' : Q24.l0 s l x (some ⟨n, holds, next⟩) 0 0 0 0 0 0 0 0 0 0 0 0 0 0 0 0 0 0 0 0 0 0 0 0 0 0 0 0 0 0 0 0 0 = some (.inl (O33 (some ⟨n, holds, next⟩) (sgF hx l s x.length))) := h
 unfold Q24.f
 rw [if_pos ⟨s0, by omega⟩, h', Q12]
 rfl
theorem num_run (hx : Nx x y next) (hn0 : 0 ≤ n) (hn : n ≤ 24) (hl8 : x.length ≤ 8) (he : ∀ e ∈ y, EdgeIn n x.length e) (l : List Int) (hl : (l.length : Int) = n) (m : Int) (y' : List Q1) (z : List Q2) :
 ∃ l', Q46.f n l m x y' z (some ⟨n, holds, next⟩) = some (l', some ⟨n, holds, next⟩) ∧ NumBy (fun s => sgK (gt l s) (sgF hx l s x.length)) n l' := by
 have hlen : (((List.replicate n.toNat (0 : Int)).length : Nat) : Int) = n := by simp; omega
 obtain ⟨r, hr, l', mp, rfl, hi⟩ := Q35 (body := fun t_ : (List Int) × (List (Q18 × Int)) × (Option Q3) × Int => Q46.l0b n l m x y' z t_.1 t_.2.1 t_.2.2.1 t_.2.2.2)
  (fun s => s.2.2.1 = some ⟨n, holds, next⟩ ∧ 0 ≤ s.2.2.2 ∧ s.2.2.2 ≤ n ∧ NInv (fun s => sgK (gt l s) (sgF hx l s x.length)) n s.2.2.2 s.1 s.2.1)
  (fun r => ∃ l' mp, r = .inl (l', mp, some ⟨n, holds, next⟩) ∧ NInv (fun s => sgK (gt l s) (sgF hx l s x.length)) n n l' mp) (fun s => (n - s.2.2.2).toNat) (fun ⟨a, mp, o, i⟩ ⟨h1, h2, h3, h4⟩ => by
   dsimp only at h1 h2 h3 h4 ⊢
   subst h1
   by_cases hi : i < n
   ·right
    have hs := sg_run (holds := holds) hx hn hl8 he l hl m y' z h2 hi
    have hw : IntKind.i64.wrap (i + 1) = i + 1 := wrap64 (by omega) (by omega)
    cases hm : mget mp (sgK (gt l i) (sgF hx l i x.length)) with
    | some v =>
     refine ⟨(st a i v, mp, some ⟨n, holds, next⟩, i + 1), ?_, ⟨rfl, by dsimp only; omega, by dsimp only; omega, h4.hit h2 hi hm⟩, by dsimp only; omega⟩
     unfold Q46.l0b
     rw [hlen, if_pos hi, hs, Option.bind_some]
     have hk : mget mp (⟨(O34' (some ⟨n, holds, next⟩ : Option Q3) (gt l i) (sgF hx l i x.length)).2.1, ⟨⟨(O34' (some ⟨n, holds, next⟩ : Option Q3) (gt l i) (sgF hx l i x.length)).2.2.1, (O34' (some ⟨n, holds, next⟩ : Option Q3) (gt l i) (sgF hx l i x.length)).2.2.2.1, (O34' (some ⟨n, holds, next⟩ : Option Q3) (gt l i) (sgF hx l i x.length)).2.2.2.2.1, (O34' (some ⟨n, holds, next⟩ : Option Q3) (gt l i) (sgF hx l i x.length)).2.2.2.2.2.1⟩, ⟨(O34' (some ⟨n, holds, next⟩ : Option Q3) (gt l i) (sgF hx l i x.length)).2.2.2.2.2.2.1, (O34' (some ⟨n, holds, next⟩ : Option Q3) (gt l i) (sgF hx l i x.length)).2.2.2.2.2.2.2.1, (O34' (some ⟨n, holds, next⟩ : Option Q3) (gt l i) (sgF hx l i x.length)).2.2.2.2.2.2.2.2.1, (O34' (some ⟨n, holds, next⟩ : Option Q3) (gt l i) (sgF hx l i x.length)).2.2.2.2.2.2.2.2.2.1⟩, ⟨(O34' (some ⟨n, holds, next⟩ : Option Q3) (gt l i) (sgF hx l i x.length)).2.2.2.2.2.2.2.2.2.2.1, (O34' (some ⟨n, holds, next⟩ : Option Q3) (gt l i) (sgF hx l i x.length)).2.2.2.2.2.2.2.2.2.2.2.1, (O34' (some ⟨n, holds, next⟩ : Option Q3) (gt l i) (sgF hx l i x.length)).2.2.2.2.2.2.2.2.2.2.2.2.1, (O34' (some ⟨n, holds, next⟩ : Option Q3) (gt l i) (sgF hx l i x.length)).2.2.2.2.2.2.2.2.2.2.2.2.2.1⟩, ⟨(O34' (some ⟨n, holds, next⟩ : Option Q3) (gt l i) (sgF hx l i x.length)).2.2.2.2.2.2.2.2.2.2.2.2.2.2.1, (O34' (some ⟨n, holds, next⟩ : Option Q3) (gt l i) (sgF hx l i x.length)).2.2.2.2.2.2.2.2.2.2.2.2.2.2.2.1, (O34' (some ⟨n, holds, next⟩ : Option Q3) (gt l i) (sgF hx l i x.length)).2.2.2.2.2.2.2.2.2.2.2.2.2.2.2.2.1, (O34' (some ⟨n, holds, next⟩ : Option Q3) (gt l i) (sgF hx l i x.length)).2.2.2.2.2.2.2.2.2.2.2.2.2.2.2.2.2.1⟩, ⟨(O34' (some ⟨n, holds, next⟩ : Option Q3) (gt l i) (sgF hx l i x.length)).2.2.2.2.2.2.2.2.2.2.2.2.2.2.2.2.2.2.1, (O34' (some ⟨n, holds, next⟩ : Option Q3) (gt l i) (sgF hx l i x.length)).2.2.2.2.2.2.2.2.2.2.2.2.2.2.2.2.2.2.2.1, (O34' (some ⟨n, holds, next⟩ : Option Q3) (gt l i) (sgF hx l i x.length)).2.2.2.2.2.2.2.2.2.2.2.2.2.2.2.2.2.2.2.2.1, (O34' (some ⟨n, holds, next⟩ : Option Q3) (gt l i) (sgF hx l i x.length)).2.2.2.2.2.2.2.2.2.2.2.2.2.2.2.2.2.2.2.2.2.1⟩, ⟨(O34' (some ⟨n, holds, next⟩ : Option Q3) (gt l i) (sgF hx l i x.length)).2.2.2.2.2.2.2.2.2.2.2.2.2.2.2.2.2.2.2.2.2.2.1, (O34' (some ⟨n, holds, next⟩ : Option Q3) (gt l i) (sgF hx l i x.length)).2.2.2.2.2.2.2.2.2.2.2.2.2.2.2.2.2.2.2.2.2.2.2.1, (O34' (some ⟨n, holds, next⟩ : Option Q3) (gt l i) (sgF hx l i x.length)).2.2.2.2.2.2.2.2.2.2.2.2.2.2.2.2.2.2.2.2.2.2.2.2.1, (O34' (some ⟨n, holds, next⟩ : Option Q3) (gt l i) (sgF hx l i x.length)).2.2.2.2.2.2.2.2.2.2.2.2.2.2.2.2.2.2.2.2.2.2.2.2.2.1⟩, ⟨(O34' (some ⟨n, holds, next⟩ : Option Q3) (gt l i) (sgF hx l i x.length)).2.2.2.2.2.2.2.2.2.2.2.2.2.2.2.2.2.2.2.2.2.2.2.2.2.2.1, (O34' (some ⟨n, holds, next⟩ : Option Q3) (gt l i) (sgF hx l i x.length)).2.2.2.2.2.2.2.2.2.2.2.2.2.2.2.2.2.2.2.2.2.2.2.2.2.2.2.1, (O34' (some ⟨n, holds, next⟩ : Option Q3) (gt l i) (sgF hx l i x.length)).2.2.2.2.2.2.2.2.2.2.2.2.2.2.2.2.2.2.2.2.2.2.2.2.2.2.2.2.1, (O34' (some ⟨n, holds, next⟩ : Option Q3) (gt l i) (sgF hx l i x.length)).2.2.2.2.2.2.2.2.2.2.2.2.2.2.2.2.2.2.2.2.2.2.2.2.2.2.2.2.2.1⟩, ⟨(O34' (some ⟨n, holds, next⟩ : Option Q3) (gt l i) (sgF hx l i x.length)).2.2.2.2.2.2.2.2.2.2.2.2.2.2.2.2.2.2.2.2.2.2.2.2.2.2.2.2.2.2.1, (O34' (some ⟨n, holds, next⟩ : Option Q3) (gt l i) (sgF hx l i x.length)).2.2.2.2.2.2.2.2.2.2.2.2.2.2.2.2.2.2.2.2.2.2.2.2.2.2.2.2.2.2.2.1, (O34' (some ⟨n, holds, next⟩ : Option Q3) (gt l i) (sgF hx l i x.length)).2.2.2.2.2.2.2.2.2.2.2.2.2.2.2.2.2.2.2.2.2.2.2.2.2.2.2.2.2.2.2.2.1, (O34' (some ⟨n, holds, next⟩ : Option Q3) (gt l i) (sgF hx l i x.length)).2.2.2.2.2.2.2.2.2.2.2.2.2.2.2.2.2.2.2.2.2.2.2.2.2.2.2.2.2.2.2.2.2⟩⟩⟩ : Q18) = some v := hm
     rw [hk]
     simp only [Option.isSome_some, if_true, Option.getD_some, if_pos (show (0 : Int) ≤ i ∧ i < n from ⟨h2, hi⟩), Q12, hw]
     rfl
    | none =>
     refine ⟨(st a i (mp.length : Int), mset mp (sgK (gt l i) (sgF hx l i x.length)) (mp.length : Int), some ⟨n, holds, next⟩, i + 1), ?_, ⟨rfl, by dsimp only; omega, by dsimp only; omega, h4.new h2 hi hm⟩, by dsimp only; omega⟩
     unfold Q46.l0b
     rw [hlen, if_pos hi, hs, Option.bind_some]
     have hk : mget mp (⟨(O34' (some ⟨n, holds, next⟩ : Option Q3) (gt l i) (sgF hx l i x.length)).2.1, ⟨⟨(O34' (some ⟨n, holds, next⟩ : Option Q3) (gt l i) (sgF hx l i x.length)).2.2.1, (O34' (some ⟨n, holds, next⟩ : Option Q3) (gt l i) (sgF hx l i x.length)).2.2.2.1, (O34' (some ⟨n, holds, next⟩ : Option Q3) (gt l i) (sgF hx l i x.length)).2.2.2.2.1, (O34' (some ⟨n, holds, next⟩ : Option Q3) (gt l i) (sgF hx l i x.length)).2.2.2.2.2.1⟩, ⟨(O34' (some ⟨n, holds, next⟩ : Option Q3) (gt l i) (sgF hx l i x.length)).2.2.2.2.2.2.1, (O34' (some ⟨n, holds, next⟩ : Option Q3) (gt l i) (sgF hx l i x.length)).2.2.2.2.2.2.2.1, (O34' (some ⟨n, holds, next⟩ : Option Q3) (gt l i) (sgF hx l i x.length)).2.2.2.2.2.2.2.2.1, (O34' (some ⟨n, holds, next⟩ : Option Q3) (gt l i) (sgF hx l i x.length)).2.2.2.2.2.2.2.2.2.1⟩, ⟨(O34' (some ⟨n, holds, next⟩ : Option Q3) (gt l i) (sgF hx l i x.length)).2.2.2.2.2.2.2.2.2.2.1, (O34' (some ⟨n, holds, next⟩ : Option Q3) (gt l i) (sgF hx l i x.length)).2.2.2.2.2.2.2.2.2.2.2.1, (O34' (some ⟨n, holds, next⟩ : Option Q3) (gt l i) (sgF hx l i x.length)).2.2.2.2.2.2.2.2.2.2.2.2.1, (O34' (some ⟨n, holds, next⟩ : Option Q3) (gt l i) (sgF hx l i x.length)).2.2.2.2.2.2.2.2.2.2.2.2.2.1⟩, ⟨(O34' (some ⟨n, holds, next⟩ : Option Q3) (gt l i) (sgF hx l i x.length)).2.2.2.2.2.2.2.2.2.2.2.2.2.2.1, (O34' (some ⟨n, holds, next⟩ : Option Q3) (gt l i) (sgF hx l i x.length)).2.2.2.2.2.2.2.2.2.2.2.2.2.2.2.1, (O34' (some ⟨n, holds, next⟩ : Option Q3) (gt l i) (sgF hx l i x.length)).2.2.2.2.2.2.2.2.2.2.2.2.2.2.2.2.1, (O34' (some ⟨n, holds, next⟩ : Option Q3) (gt l i) (sgF hx l i x.length)).2.2.2.2.2.2.2.2.2.2.2.2.2.2.2.2.2.1⟩, ⟨(O34' (some ⟨n, holds, next⟩ : Option Q3) (gt l i) (sgF hx l i x.length)).2.2.2.2.2.2.2.2.2.2.2.2.2.2.2.2.2.2.1, (O34' (some ⟨n, holds, next⟩ : Option Q3) (gt l i) (sgF hx l i x.length)).2.2.2.2.2.2.2.2.2.2.2.2.2.2.2.2.2.2.2.1, (O34' (some ⟨n, holds, next⟩ : Option Q3) (gt l i) (sgF hx l i x.length)).2.2.2.2.2.2.2.2.2.2.2.2.2.2.2.2.2.2.2.2.1, (O34' (some ⟨n, holds, next⟩ : Option Q3) (gt l i) (sgF hx l i x.length)).2.2.2.2.2.2.2.2.2.2.2.2.2.2.2.2.2.2.2.2.2.1⟩, ⟨(O34' (some ⟨n, holds, next⟩ : Option Q3) (gt l i) (sgF hx l i x.length)).2.2.2.2.2.2.2.2.2.2.2.2.2.2.2.2.2.2.2.2.2.2.1, (O34' (some ⟨n, holds, next⟩ : Option Q3) (gt l i) (sgF hx l i x.length)).2.2.2.2.2.2.2.2.2.2.2.2.2.2.2.2.2.2.2.2.2.2.2.1, (O34' (some ⟨n, holds, next⟩ : Option Q3) (gt l i) (sgF hx l i x.length)).2.2.2.2.2.2.2.2.2.2.2.2.2.2.2.2.2.2.2.2.2.2.2.2.1, (O34' (some ⟨n, holds, next⟩ : Option Q3) (gt l i) (sgF hx l i x.length)).2.2.2.2.2.2.2.2.2.2.2.2.2.2.2.2.2.2.2.2.2.2.2.2.2.1⟩, ⟨(O34' (some ⟨n, holds, next⟩ : Option Q3) (gt l i) (sgF hx l i x.length)).2.2.2.2.2.2.2.2.2.2.2.2.2.2.2.2.2.2.2.2.2.2.2.2.2.2.1, (O34' (some ⟨n, holds, next⟩ : Option Q3) (gt l i) (sgF hx l i x.length)).2.2.2.2.2.2.2.2.2.2.2.2.2.2.2.2.2.2.2.2.2.2.2.2.2.2.2.1, (O34' (some ⟨n, holds, next⟩ : Option Q3) (gt l i) (sgF hx l i x.length)).2.2.2.2.2.2.2.2.2.2.2.2.2.2.2.2.2.2.2.2.2.2.2.2.2.2.2.2.1, (O34' (some ⟨n, holds, next⟩ : Option Q3) (gt l i) (sgF hx l i x.length)).2.2.2.2.2.2.2.2.2.2.2.2.2.2.2.2.2.2.2.2.2.2.2.2.2.2.2.2.2.1⟩, ⟨(O34' (some ⟨n, holds, next⟩ : Option Q3) (gt l i) (sgF hx l i x.length)).2.2.2.2.2.2.2.2.2.2.2.2.2.2.2.2.2.2.2.2.2.2.2.2.2.2.2.2.2.2.1, (O34' (some ⟨n, holds, next⟩ : Option Q3) (gt l i) (sgF hx l i x.length)).2.2.2.2.2.2.2.2.2.2.2.2.2.2.2.2.2.2.2.2.2.2.2.2.2.2.2.2.2.2.2.1, (O34' (some ⟨n, holds, next⟩ : Option Q3) (gt l i) (sgF hx l i x.length)).2.2.2.2.2.2.2.2.2.2.2.2.2.2.2.2.2.2.2.2.2.2.2.2.2.2.2.2.2.2.2.2.1, (O34' (some ⟨n, holds, next⟩ : Option Q3) (gt l i) (sgF hx l i x.length)).2.2.2.2.2.2.2.2.2.2.2.2.2.2.2.2.2.2.2.2.2.2.2.2.2.2.2.2.2.2.2.2.2⟩⟩⟩ : Q18) = none := hm
     have hk2 : mget (mset mp (⟨(O34' (some ⟨n, holds, next⟩ : Option Q3) (gt l i) (sgF hx l i x.length)).2.1, ⟨⟨(O34' (some ⟨n, holds, next⟩ : Option Q3) (gt l i) (sgF hx l i x.length)).2.2.1, (O34' (some ⟨n, holds, next⟩ : Option Q3) (gt l i) (sgF hx l i x.length)).2.2.2.1, (O34' (some ⟨n, holds, next⟩ : Option Q3) (gt l i) (sgF hx l i x.length)).2.2.2.2.1, (O34' (some ⟨n, holds, next⟩ : Option Q3) (gt l i) (sgF hx l i x.length)).2.2.2.2.2.1⟩, ⟨(O34' (some ⟨n, holds, next⟩ : Option Q3) (gt l i) (sgF hx l i x.length)).2.2.2.2.2.2.1, (O34' (some ⟨n, holds, next⟩ : Option Q3) (gt l i) (sgF hx l i x.length)).2.2.2.2.2.2.2.1, (O34' (some ⟨n, holds, next⟩ : Option Q3) (gt l i) (sgF hx l i x.length)).2.2.2.2.2.2.2.2.1, (O34' (some ⟨n, holds, next⟩ : Option Q3) (gt l i) (sgF hx l i x.length)).2.2.2.2.2.2.2.2.2.1⟩, ⟨(O34' (some ⟨n, holds, next⟩ : Option Q3) (gt l i) (sgF hx l i x.length)).2.2.2.2.2.2.2.2.2.2.1, (O34' (some ⟨n, holds, next⟩ : Option Q3) (gt l i) (sgF hx l i x.length)).2.2.2.2.2.2.2.2.2.2.2.1, (O34' (some ⟨n, holds, next⟩ : Option Q3) (gt l i) (sgF hx l i x.length)).2.2.2.2.2.2.2.2.2.2.2.2.1, (O34' (some ⟨n, holds, next⟩ : Option Q3) (gt l i) (sgF hx l i x.length)).2.2.2.2.2.2.2.2.2.2.2.2.2.1⟩, ⟨(O34' (some ⟨n, holds, next⟩ : Option Q3) (gt l i) (sgF hx l i x.length)).2.2.2.2.2.2.2.2.2.2.2.2.2.2.1, (O34' (some ⟨n, holds, next⟩ : Option Q3) (gt l i) (sgF hx l i x.length)).2.2.2.2.2.2.2.2.2.2.2.2.2.2.2.1, (O34' (some ⟨n, holds, next⟩ : Option Q3) (gt l i) (sgF hx l i x.length)).2.2.2.2.2.2.2.2.2.2.2.2.2.2.2.2.1, (O34' (some ⟨n, holds, next⟩ : Option Q3) (gt l i) (sgF hx l i x.length)).2.2.2.2.2.2.2.2.2.2.2.2.2.2.2.2.2.1⟩, ⟨(O34' (some ⟨n, holds, next⟩ : Option Q3) (gt l i) (sgF hx l i x.length)).2.2.2.2.2.2.2.2.2.2.2.2.2.2.2.2.2.2.1, (O34' (some ⟨n, holds, next⟩ : Option Q3) (gt l i) (sgF hx l i x.length)).2.2.2.2.2.2.2.2.2.2.2.2.2.2.2.2.2.2.2.1, (O34' (some ⟨n, holds, next⟩ : Option Q3) (gt l i) (sgF hx l i x.length)).2.2.2.2.2.2.2.2.2.2.2.2.2.2.2.2.2.2.2.2.1, (O34' (some ⟨n, holds, next⟩ : Option Q3) (gt l i) (sgF hx l i x.length)).2.2.2.2.2.2.2.2.2.2.2.2.2.2.2.2.2.2.2.2.2.1⟩, ⟨(O34' (some ⟨n, holds, next⟩ : Option Q3) (gt l i) (sgF hx l i x.length)).2.2.2.2.2.2.2.2.2.2.2.2.2.2.2.2.2.2.2.2.2.2.1, (O34' (some ⟨n, holds, next⟩ : Option Q3) (gt l i) (sgF hx l i x.length)).2.2.2.2.2.2.2.2.2.2.2.2.2.2.2.2.2.2.2.2.2.2.2.1, (O34' (some ⟨n, holds, next⟩ : Option Q3) (gt l i) (sgF hx l i x.length)).2.2.2.2.2.2.2.2.2.2.2.2.2.2.2.2.2.2.2.2.2.2.2.2.1, (O34' (some ⟨n, holds, next⟩ : Option Q3) (gt l i) (sgF hx l i x.length)).2.2.2.2.2.2.2.2.2.2.2.2.2.2.2.2.2.2.2.2.2.2.2.2.2.1⟩, ⟨(O34' (some ⟨n, holds, next⟩ : Option Q3) (gt l i) (sgF hx l i x.length)).2.2.2.2.2.2.2.2.2.2.2.2.2.2.2.2.2.2.2.2.2.2.2.2.2.2.1, (O34' (some ⟨n, holds, next⟩ : Option Q3) (gt l i) (sgF hx l i x.length)).2.2.2.2.2.2.2.2.2.2.2.2.2.2.2.2.2.2.2.2.2.2.2.2.2.2.2.1, (O34' (some ⟨n, holds, next⟩ : Option Q3) (gt l i) (sgF hx l i x.length)).2.2.2.2.2.2.2.2.2.2.2.2.2.2.2.2.2.2.2.2.2.2.2.2.2.2.2.2.1, (O34' (some ⟨n, holds, next⟩ : Option Q3) (gt l i) (sgF hx l i x.length)).2.2.2.2.2.2.2.2.2.2.2.2.2.2.2.2.2.2.2.2.2.2.2.2.2.2.2.2.2.1⟩, ⟨(O34' (some ⟨n, holds, next⟩ : Option Q3) (gt l i) (sgF hx l i x.length)).2.2.2.2.2.2.2.2.2.2.2.2.2.2.2.2.2.2.2.2.2.2.2.2.2.2.2.2.2.2.1, (O34' (some ⟨n, holds, next⟩ : Option Q3) (gt l i) (sgF hx l i x.length)).2.2.2.2.2.2.2.2.2.2.2.2.2.2.2.2.2.2.2.2.2.2.2.2.2.2.2.2.2.2.2.1, (O34' (some ⟨n, holds, next⟩ : Option Q3) (gt l i) (sgF hx l i x.length)).2.2.2.2.2.2.2.2.2.2.2.2.2.2.2.2.2.2.2.2.2.2.2.2.2.2.2.2.2.2.2.2.1, (O34' (some ⟨n, holds, next⟩ : Option Q3) (gt l i) (sgF hx l i x.length)).2.2.2.2.2.2.2.2.2.2.2.2.2.2.2.2.2.2.2.2.2.2.2.2.2.2.2.2.2.2.2.2.2⟩⟩⟩ : Q18) (mp.length : Int)) (⟨(O34' (some ⟨n, holds, next⟩ : Option Q3) (gt l i) (sgF hx l i x.length)).2.1, ⟨⟨(O34' (some ⟨n, holds, next⟩ : Option Q3) (gt l i) (sgF hx l i x.length)).2.2.1, (O34' (some ⟨n, holds, next⟩ : Option Q3) (gt l i) (sgF hx l i x.length)).2.2.2.1, (O34' (some ⟨n, holds, next⟩ : Option Q3) (gt l i) (sgF hx l i x.length)).2.2.2.2.1, (O34' (some ⟨n, holds, next⟩ : Option Q3) (gt l i) (sgF hx l i x.length)).2.2.2.2.2.1⟩, ⟨(O34' (some ⟨n, holds, next⟩ : Option Q3) (gt l i) (sgF hx l i x.length)).2.2.2.2.2.2.1, (O34' (some ⟨n, holds, next⟩ : Option Q3) (gt l i) (sgF hx l i x.length)).2.2.2.2.2.2.2.1, (O34' (some ⟨n, holds, next⟩ : Option Q3) (gt l i) (sgF hx l i x.length)).2.2.2.2.2.2.2.2.1, (O34' (some ⟨n, holds, next⟩ : Option Q3) (gt l i) (sgF hx l i x.length)).2.2.2.2.2.2.2.2.2.1⟩, ⟨(O34' (some ⟨n, holds, next⟩ : Option Q3) (gt l i) (sgF hx l i x.length)).2.2.2.2.2.2.2.2.2.2.1, (O34' (some ⟨n, holds, next⟩ : Option Q3) (gt l i) (sgF hx l i x.length)).2.2.2.2.2.2.2.2.2.2.2.1, (O34' (some ⟨n, holds, next⟩ : Option Q3) (gt l i) (sgF hx l i x.length)).2.2.2.2.2.2.2.2.2.2.2.2.1, (O34' (some ⟨n, holds, next⟩ : Option Q3) (gt l i) (sgF hx l i x.length)).2.2.2.2.2.2.2.2.2.2.2.2.2.1⟩, ⟨(O34' (some ⟨n, holds, next⟩ : Option Q3) (gt l i) (sgF hx l i x.length)).2.2.2.2.2.2.2.2.2.2.2.2.2.2.1, (O34' (some ⟨n, holds, next⟩ : Option Q3) (gt l i) (sgF hx l i x.length)).2.2.2.2.2.2.2.2.2.2.2.2.2.2.2.1, (O34' (some ⟨n, holds, next⟩ : Option Q3) (gt l i) (sgF hx l i x.length)).2.2.2.2.2.2.2.2.2.2.2.2.2.2.2.2.1, (O34' (some ⟨n, holds, next⟩ : Option Q3) (gt l i) (sgF hx l i x.length)).2.2.2.2.2.2.2.2.2.2.2.2.2.2.2.2.2.1⟩, ⟨(O34' (some ⟨n, holds, next⟩ : Option Q3) (gt l i) (sgF hx l i x.length)).2.2.2.2.2.2.2.2.2.2.2.2.2.2.2.2.2.2.1, (O34' (some ⟨n, holds, next⟩ : Option Q3) (gt l i) (sgF hx l i x.length)).2.2.2.2.2.2.2.2.2.2.2.2.2.2.2.2.2.2.2.1, (O34' (some ⟨n, holds, next⟩ : Option Q3) (gt l i) (sgF hx l i x.length)).2.2.2.2.2.2.2.2.2.2.2.2.2.2.2.2.2.2.2.2.1, (O34' (some ⟨n, holds, next⟩ : Option Q3) (gt l i) (sgF hx l i x.length)).2.2.2.2.2.2.2.2.2.2.2.2.2.2.2.2.2.2.2.2.2.1⟩, ⟨(O34' (some ⟨n, holds, next⟩ : Option Q3) (gt l i) (sgF hx l i x.length)).2.2.2.2.2.2.2.2.2.2.2.2.2.2.2.2.2.2.2.2.2.2.1, (O34' (some ⟨n, holds, next⟩ : Option Q3) (gt l i) (sgF hx l i x.length)).2.2.2.2.2.2.2.2.2.2.2.2.2.2.2.2.2.2.2.2.2.2.2.1, (O34' (some ⟨n, holds, next⟩ : Option Q3) (gt l i) (sgF hx l i x.length)).2.2.2.2.2.2.2.2.2.2.2.2.2.2.2.2.2.2.2.2.2.2.2.2.1, (O34' (some ⟨n, holds, next⟩ : Option Q3) (gt l i) (sgF hx l i x.length)).2.2.2.2.2.2.2.2.2.2.2.2.2.2.2.2.2.2.2.2.2.2.2.2.2.1⟩, ⟨(O34' (some ⟨n, holds, next⟩ : Option Q3) (gt l i) (sgF hx l i x.length)).2.2.2.2.2.2.2.2.2.2.2.2.2.2.2.2.2.2.2.2.2.2.2.2.2.2.1, (O34' (some ⟨n, holds, next⟩ : Option Q3) (gt l i) (sgF hx l i x.length)).2.2.2.2.2.2.2.2.2.2.2.2.2.2.2.2.2.2.2.2.2.2.2.2.2.2.2.1, (O34' (some ⟨n, holds, next⟩ : Option Q3) (gt l i) (sgF hx l i x.length)).2.2.2.2.2.2.2.2.2.2.2.2.2.2.2.2.2.2.2.2.2.2.2.2.2.2.2.2.1, (O34' (some ⟨n, holds, next⟩ : Option Q3) (gt l i) (sgF hx l i x.length)).2.2.2.2.2.2.2.2.2.2.2.2.2.2.2.2.2.2.2.2.2.2.2.2.2.2.2.2.2.1⟩, ⟨(O34' (some ⟨n, holds, next⟩ : Option Q3) (gt l i) (sgF hx l i x.length)).2.2.2.2.2.2.2.2.2.2.2.2.2.2.2.2.2.2.2.2.2.2.2.2.2.2.2.2.2.2.1, (O34' (some ⟨n, holds, next⟩ : Option Q3) (gt l i) (sgF hx l i x.length)).2.2.2.2.2.2.2.2.2.2.2.2.2.2.2.2.2.2.2.2.2.2.2.2.2.2.2.2.2.2.2.1, (O34' (some ⟨n, holds, next⟩ : Option Q3) (gt l i) (sgF hx l i x.length)).2.2.2.2.2.2.2.2.2.2.2.2.2.2.2.2.2.2.2.2.2.2.2.2.2.2.2.2.2.2.2.2.1, (O34' (some ⟨n, holds, next⟩ : Option Q3) (gt l i) (sgF hx l i x.length)).2.2.2.2.2.2.2.2.2.2.2.2.2.2.2.2.2.2.2.2.2.2.2.2.2.2.2.2.2.2.2.2.2⟩⟩⟩ : Q18) = some (mp.length : Int) := by rw [Q168, if_pos rfl]
     rw [hk, hk2]
     simp only [Option.isSome_none, Bool.false_eq_true, if_false, Option.getD_some, if_pos (show (0 : Int) ≤ i ∧ i < n from ⟨h2, hi⟩), Q12, hw]
     rfl
   ·left
    have hin : i = n := by omega
    subst hin
    refine ⟨.inl (a, mp, some ⟨i, holds, next⟩), ?_, a, mp, rfl, h4⟩
    unfold Q46.l0b
    rw [hlen, if_neg hi]
    rfl) (List.replicate n.toNat 0, [], some ⟨n, holds, next⟩, 0) ⟨rfl, Int.le_refl _, hn0, NInv.zero hlen⟩
 refine ⟨l', ?_, hi.fin⟩
 unfold Q46.f
 have hl0 : Q46.l0 n l m x y' z (List.replicate n.toNat 0) [] (some ⟨n, holds, next⟩) 0 = some (.inl (l', mp, some ⟨n, holds, next⟩)) := hr
 rw [if_pos (by omega), hl0, Q12]
end
end Go.Bw
namespace Go.Bw
open Go Go.RowKit

theorem Q177 {ρ : Type} {body : Int → Option (Int ⊕ (Unit ⊕ ρ))} {N : Int} {p : Int → Prop} {bad : ρ} (hN : N ≤ 9223372036854775807) (k0 : Int) (h0 : 0 ≤ k0)
 (h : ∀ i, k0 ≤ i → i < N → (p i ∧ body i = some (.inl (IntKind.i64.wrap (i + 1)))) ∨ (¬ p i ∧ body i = some (.inr (.inr bad)))) (he : ∀ i, ¬ i < N → body i = some (.inr (.inl ()))) :
 (iter body k0 = some (.inl ()) ∧ ∀ i, k0 ≤ i → i < N → p i) ∨ (iter body k0 = some (.inr bad) ∧ ∃ i, k0 ≤ i ∧ i < N ∧ ¬ p i) := by
 obtain ⟨r, hr, hq⟩ := Q35 (body := body) (fun i => k0 ≤ i ∧ ∀ j, k0 ≤ j → j < i → p j) (fun r => (r = .inl () ∧ ∀ i, k0 ≤ i → i < N → p i) ∨ (r = .inr bad ∧ ∃ i, k0 ≤ i ∧ i < N ∧ ¬ p i)) (fun i => (N - i).toNat) (fun i ⟨h1, h2⟩ => by
  by_cases hi : i < N
  ·rcases h i h1 hi with ⟨hp, hb⟩ | ⟨hp, hb⟩
   ·right
    rw [wrap64 (by omega) (by omega)] at hb
    refine ⟨_, hb, ⟨by omega, fun j j0 j1 => ?_⟩, by omega⟩
    by_cases hj : j = i
    ·subst hj; exact hp
    ·exact h2 j j0 (by omega)
   ·left; exact ⟨_, hb, .inr ⟨rfl, i, h1, hi, hp⟩⟩
  ·left; exact ⟨_, he i hi, .inl ⟨rfl, fun j j0 j1 => h2 j j0 (by omega)⟩⟩) k0 ⟨Int.le_refl _, fun j j0 j1 => by omega⟩
 rcases hq with ⟨rfl, hq⟩ | ⟨rfl, hq⟩
 ·exact .inl ⟨hr, hq⟩
 ·exact .inr ⟨hr, hq⟩
def OkB (c : Int) : Prop := 97 ≤ c ∧ c ≤ 122 ∨ 65 ≤ c ∧ c ≤ 90 ∨ 48 ≤ c ∧ c ≤ 57 ∨ c = 95
theorem rune_run (r : Int) : ∃ b, Q104.f r = some b ∧ (b = true ↔ ¬ OkB r) := by
 obtain ⟨b, hb⟩ := rune_name r
 refine ⟨b, hb, ?_⟩
 unfold Q104.f at hb
 unfold OkB
 by_cases h1 : 97 ≤ r <;> by_cases h2 : 65 ≤ r <;> by_cases h3 : 48 ≤ r <;> simp [h1, h2, h3, jn] at hb <;> (try omega) <;>
  (by_cases h4 : r ≤ 122 <;> by_cases h5 : r ≤ 90 <;> by_cases h6 : r ≤ 57 <;> by_cases h7 : r = 95 <;> simp [h4, h5, h6, h7] at hb <;> first | omega | (subst hb; simp; omega))
theorem rune_low {s : Bs} {k : Nat} (hk : k < s.length) (h : bat s k < 128) : runeAt s k = bat s k ∧ runeLen s k = 1 := by
 have hg : ((ByteArray.mk s.toArray).get! k).toNat = (s.getD k 0).toNat := by
  simp [ByteArray.get!, List.getD_eq_getElem?_getD, hk]
 have h' : (s.getD k 0).toNat < 128 := by
  have : bat s k = ((s.getD k 0).toNat : Int) := by simp [bat]
  omega
 unfold runeAt runeLen Utf8.decode
 simp only [Nat.add_zero, hg, if_pos (show (s.getD k 0).toNat < 0x80 from h')]
 simp [bat]
theorem rune_high {s : Bs} {k : Nat} (hk : k < s.length) (h : 128 ≤ bat s k) : 128 ≤ runeAt s k := by
 have hg : ((ByteArray.mk s.toArray).get! k).toNat = (s.getD k 0).toNat := by
  simp [ByteArray.get!, List.getD_eq_getElem?_getD, hk]
 have h' : ¬ (s.getD k 0).toNat < 0x80 := by
  have : bat s k = ((s.getD k 0).toNat : Int) := by simp [bat]
  omega
 unfold runeAt Utf8.decode
 simp only [Nat.add_zero, hg, if_neg h']
 have e : (Utf8.runeError : Nat) = 65533 := rfl
 repeat' split
 all_goals try dsimp only
 all_goals first
  | omega
  | (rename_i hc; simp only [Bool.and_eq_true, decide_eq_true_eq] at hc; omega)
  | (rw [e]; omega)
theorem okB_low {c : Int} (h : OkB c) : c < 128 := by unfold OkB at h; omega
def NameS (s : Bs) : Prop := 1 ≤ s.length ∧ s.length ≤ 8 ∧ 97 ≤ bat s 0 ∧ bat s 0 ≤ 122 ∧ s ≠ [116, 116] ∧ s ≠ [102, 102] ∧ s ≠ [109, 117] ∧ s ≠ [110, 117] ∧ ∀ i : Int, 0 ≤ i → i < (s.length : Int) → OkB (bat s i)
theorem Q325 (s : Bs) : ∃ b, Q114.f s = some b ∧ (b = true ↔ ¬ ∀ i : Int, 0 ≤ i → i < (s.length : Int) → OkB (bat s i)) := by
 obtain ⟨r, hr, hq⟩ := Q35 (body := fun t_ : Nat => Q61.l0b s true t_) (fun k => ∀ i : Int, 0 ≤ i → i < (k : Int) → i < (s.length : Int) → OkB (bat s i))
  (fun r => (∃ k, r = .inl k ∧ ∀ i : Int, 0 ≤ i → i < (s.length : Int) → OkB (bat s i)) ∨ ∃ k : Nat, r = .inr (k : Int) ∧ ¬ ∀ i : Int, 0 ≤ i → i < (s.length : Int) → OkB (bat s i)) (fun k => s.length - k) (fun k hI => by
   unfold Q61.l0b
   by_cases hk : k < s.length
   ·obtain ⟨b, hb, hb2⟩ := rune_run (runeAt s k)
    rw [if_pos hk, hb]
    simp only [Option.bind_some]
    by_cases hl : bat s k < 128
    ·obtain ⟨e1, e2⟩ := rune_low hk hl
     rw [e1] at hb2
     rw [e2]
     cases b with
     | true =>
      left
      refine ⟨_, rfl, .inr ⟨k, rfl, fun hall => hb2.1 rfl (hall k (by omega) (by omega))⟩⟩
     | false =>
      right
      have hok : OkB (bat s k) := Classical.not_not.1 fun h => by have := hb2.2 h; cases this
      refine ⟨_, rfl, fun i i0 i1 i2 => ?_, by omega⟩
      by_cases hi : i = (k : Int)
      ·subst hi; exact hok
      ·exact hI i i0 (by omega) i2
    ·have hh := rune_high hk (by omega)
     have hbt : b = true := hb2.2 fun h => by have := okB_low h; omega
     subst hbt
     left
     exact ⟨_, rfl, .inr ⟨k, rfl, fun hall => by have := okB_low (hall k (by omega) (by omega)); omega⟩⟩
   ·left; rw [if_neg hk]; exact ⟨_, rfl, .inl ⟨k, rfl, fun i i0 i1 => hI i i0 (by omega) i1⟩⟩) 0 (fun i i0 i1 => by omega)
 unfold Q114.f Q133.f Q61.f Q61.l0
 rw [hr]
 rcases hq with ⟨k, rfl, hq⟩ | ⟨k, rfl, hq⟩
 ·exact ⟨false, rfl, by simp; exact hq⟩
 ·exact ⟨true, by simp [jn], by simp only [true_iff]; exact hq⟩
end Go.Bw
namespace Go.Bw
open Go Go.RowKit

theorem Q183 {x : Option (Unit ⊕ Bool)} {p : Prop} (h : (x = some (.inl ()) ∧ p) ∨ (x = some (.inr false) ∧ ¬ p)) : ∃ b, jn x (fun _ => some true) = some b ∧ (b = true ↔ p) := by
 rcases h with ⟨rfl, h⟩ | ⟨rfl, h⟩
 ·exact ⟨true, rfl, by simp [h]⟩
 ·exact ⟨false, rfl, by simp [h]⟩
theorem Q282 (s : Bs) : ∃ b, Q79.f s = some b ∧ (b = true ↔ NameS s) := by
 obtain ⟨c, hc, hc2⟩ := Q325 s
 unfold Q79.f NameS
 by_cases h1 : (s.length : Int) < 1
 ·exact ⟨false, by simp [h1, jn], by simp; omega⟩
 by_cases h2 : 8 < (s.length : Int)
 ·exact ⟨false, by simp [h1, h2, jn], by simp; omega⟩
 have h0 : (0 : Int) ≤ 0 ∧ 0 < (s.length : Int) := by omega
 simp only [if_neg h1, Q12, decide_eq_false h2, Bool.false_eq_true, if_false, if_pos h0]
 by_cases h3 : bat s 0 < 97
 ·exact ⟨false, by simp [h3, jn], by simp; omega⟩
 by_cases h4 : 122 < bat s 0
 ·exact ⟨false, by simp [h3, h4, jn], by simp; omega⟩
 simp only [decide_eq_false h3, decide_eq_false h4, Bool.false_eq_true, if_false, Q12, Q152, hc, Option.bind_some]
 by_cases k1 : s = [116, 116]
 ·exact ⟨false, by simp [k1], by simp [k1]⟩
 by_cases k2 : s = [102, 102]
 ·exact ⟨false, by simp [k2], by simp [k2]⟩
 by_cases k3 : s = [109, 117]
 ·exact ⟨false, by simp [k3], by simp [k3]⟩
 by_cases k4 : s = [110, 117]
 ·exact ⟨false, by simp [k4], by simp [k4]⟩
 refine ⟨!c, by simp [k1, k2, k3, k4], ?_⟩
 have hc3 : (!c) = true ↔ ∀ i : Int, 0 ≤ i → i < (s.length : Int) → OkB (bat s i) := by
  cases c with
  | true => simp only [Bool.not_true, Bool.false_eq_true, false_iff]; exact hc2.1 rfl
  | false =>
   simp only [Bool.not_false, true_iff]
   exact Classical.not_not.1 fun h => by have := hc2.2 h; cases this
 rw [hc3]
 exact ⟨fun h => ⟨by omega, by omega, by omega, by omega, k1, k2, k3, k4, h⟩, fun h => h.2.2.2.2.2.2.2.2⟩
def Rise {α : Type} [Inhabited α] (lt : α → α → Prop) (a : List α) : Prop := ∀ i : Int, 1 ≤ i → i < (a.length : Int) → lt (gt a (i - 1)) (gt a i)
theorem Q309 (a : List Int) (ha : (a.length : Int) ≤ 9223372036854775807) : ∃ b, Q63.f a = some b ∧ (b = true ↔ Rise (· < ·) a) := by
 refine Q183 ?_
 rcases Q177 (body := fun t_ : Int => Q63.l0b a t_) (N := a.length) (p := fun i => gt a (i - 1) < gt a i) (bad := false) ha 1 (by decide) (fun i h0 h1 => by
  simp only [Q63.l0b]
  rw [if_pos h1, wrap64 (x := i - 1) (by omega) (by omega), if_pos (by omega), if_pos (by omega), Q255]
  simp only [Option.bind_some]
  by_cases hp : gt a (i - 1) < gt a i
  ·left; rw [if_neg (by have := Q172.2 hp; omega)]; exact ⟨hp, rfl⟩
  ·right; rw [if_pos (by have : ¬ cmp3 (gt a (i - 1)) (gt a i) < 0 := fun h => hp (Q172.1 h); omega)]; exact ⟨hp, rfl⟩) (fun i h => by simp only [Q63.l0b]; rw [if_neg h]; rfl) with ⟨h, q⟩ | ⟨h, i, i0, i1, i2⟩
 ·exact .inl ⟨h, q⟩
 ·exact .inr ⟨h, fun hr => i2 (hr i i0 i1)⟩
def BLt (x y : Bs) : Prop := Lib.compareBytes x y < 0
theorem Q330 (a : List Bs) (ha : (a.length : Int) ≤ 9223372036854775807) : ∃ b, Q57.f a = some b ∧ (b = true ↔ Rise BLt a) := by
 refine Q183 ?_
 rcases Q177 (body := fun t_ : Int => Q57.l0b a t_) (N := a.length) (p := fun i => BLt (gt a (i - 1)) (gt a i)) (bad := false) ha 1 (by decide) (fun i h0 h1 => by
  simp only [Q57.l0b]
  rw [if_pos h1, wrap64 (x := i - 1) (by omega) (by omega), if_pos (by omega), if_pos (by omega)]
  simp only [Q94.f, Q123.f, Option.bind_some]
  by_cases hp : BLt (gt a (i - 1)) (gt a i)
  ·left; rw [if_neg (by unfold BLt at hp; omega)]; exact ⟨hp, rfl⟩
  ·right; rw [if_pos (by unfold BLt at hp; omega)]; exact ⟨hp, rfl⟩) (fun i h => by simp only [Q57.l0b]; rw [if_neg h]; rfl) with ⟨h, q⟩ | ⟨h, i, i0, i1, i2⟩
 ·exact .inl ⟨h, q⟩
 ·exact .inr ⟨h, fun hr => i2 (hr i i0 i1)⟩
theorem Q352 (a : List Q2) (ha : (a.length : Int) ≤ 9223372036854775807) : ∃ b, Q64.f a = some b ∧ (b = true ↔ Rise (fun p q => BLt p.Name q.Name) a) := by
 refine Q183 ?_
 rcases Q177 (body := fun t_ : Int => Q64.l0b a t_) (N := a.length) (p := fun i => BLt (gt a (i - 1)).Name (gt a i).Name) (bad := false) ha 1 (by decide) (fun i h0 h1 => by
  simp only [Q64.l0b]
  rw [if_pos h1, wrap64 (x := i - 1) (by omega) (by omega), if_pos (by omega), if_pos (by omega)]
  simp only [Q107.f, Q94.f, Q123.f, Option.bind_some]
  by_cases hp : BLt (gt a (i - 1)).Name (gt a i).Name
  ·left; rw [if_neg (by unfold BLt at hp; omega)]; exact ⟨hp, rfl⟩
  ·right; rw [if_pos (by unfold BLt at hp; omega)]; exact ⟨hp, rfl⟩) (fun i h => by simp only [Q64.l0b]; rw [if_neg h]; rfl) with ⟨h, q⟩ | ⟨h, i, i0, i1, i2⟩
 ·exact .inl ⟨h, q⟩
 ·exact .inr ⟨h, fun hr => i2 (hr i i0 i1)⟩
theorem Q335 (a : List Q1) (ha : (a.length : Int) ≤ 9223372036854775807) : ∃ b, Q58.f a = some b ∧ (b = true ↔ Rise edgeLt a) := by
 refine Q183 ?_
 rcases Q177 (body := fun t_ : Int => Q58.l0b a t_) (N := a.length) (p := fun i => edgeLt (gt a (i - 1)) (gt a i)) (bad := false) ha 1 (by decide) (fun i h0 h1 => by
  simp only [Q58.l0b]
  rw [if_pos h1, wrap64 (x := i - 1) (by omega) (by omega), if_pos (by omega), if_pos (by omega), Q272]
  simp only [Option.bind_some]
  by_cases hp : edgeLt (gt a (i - 1)) (gt a i)
  ·left; rw [if_neg (by have := Q231.2 hp; omega)]; exact ⟨hp, rfl⟩
  ·right; rw [if_pos (by have : ¬ edgeCmp (gt a (i - 1)) (gt a i) < 0 := fun h => hp (Q231.1 h); omega)]; exact ⟨hp, rfl⟩) (fun i h => by simp only [Q58.l0b]; rw [if_neg h]; rfl) with ⟨h, q⟩ | ⟨h, i, i0, i1, i2⟩
 ·exact .inl ⟨h, q⟩
 ·exact .inr ⟨h, fun hr => i2 (hr i i0 i1)⟩
end Go.Bw
namespace Go.Bw
open Go Go.RowKit

theorem names_iff (a : List Bs) (ha : (a.length : Int) ≤ 9223372036854775807) : ∃ b, Q124.f a = some b ∧ (b = true ↔ ¬ ∀ s ∈ a, NameS s) := by
 -- all that is passed is a name
 have key := Q35 (body := fun t_ : Int => Q60.l0b a t_) (fun i => 0 ≤ i ∧ ∀ j : Int, 0 ≤ j → j < i → j < (a.length : Int) → NameS (gt a j)) (fun r => r = .inl () ∧ (∀ s ∈ a, NameS s) ∨ ∃ k : Int, 0 ≤ k ∧ r = .inr k ∧ ¬ ∀ s ∈ a, NameS s) (fun i => ((a.length : Int) - i).toNat) (fun i ⟨h0, h2⟩ => by
  unfold Q60.l0b Q134.f
  by_cases h1 : i < (a.length : Int)
  ·obtain ⟨c, hc, hc2⟩ := Q282 (gt a i)
   rw [if_pos h1, if_pos ⟨h0, h1⟩, hc]
   simp only [Option.bind_some]
   cases c with
   | true =>
    right
    rw [wrap64 (x := i + 1) (by omega) (by omega)]
    refine ⟨_, rfl, ⟨by omega, fun j j0 j1 j2 => ?_⟩, by omega⟩
    by_cases hj : j = i
    ·subst hj; exact hc2.1 rfl
    ·exact h2 j j0 (by omega) j2
   | false => left; exact ⟨_, rfl, .inr ⟨i, h0, rfl, fun h => by have := hc2.2 (h _ (Q48 h0 h1)); cases this⟩⟩
  ·left; rw [if_neg h1]
   refine ⟨_, rfl, .inl ⟨rfl, fun s hs => ?_⟩⟩
   obtain ⟨k, hk, rfl⟩ := List.getElem_of_mem hs
   have := h2 k (by omega) (by omega) (by omega)
   rwa [Q95 (List.getElem?_eq_getElem hk)] at this) 0 ⟨Int.le_refl _, fun j j0 j1 => by omega⟩
 obtain ⟨r', hr', hq'⟩ := key
 unfold Q124.f Q60.f Q60.l0
 rw [hr']
 rcases hq' with ⟨rfl, h⟩ | ⟨k, k0, rfl, h⟩
 ·exact ⟨false, rfl, by simp; exact h⟩
 ·exact ⟨true, by simp [jn, k0], by simp only [true_iff]; exact h⟩
def StatesS (n : Int) (a : List Int) : Prop := (∀ s ∈ a, 0 ≤ s ∧ s < n) ∧ Rise (· < ·) a
theorem inS_iff (a : List Int) (n : Int) (x : List Bs) (y : List Q1) (z : List Q2) (ha : (a.length : Int) ≤ 9223372036854775807) : ∃ b, Q116.f a n x y z = some b ∧ (b = true ↔ ¬ ∀ s ∈ a, 0 ≤ s ∧ s < n) := by
 have key := Q35 (body := fun t_ : Int => Q65.l0b a n x y z t_) (fun i => 0 ≤ i ∧ ∀ j : Int, 0 ≤ j → j < i → j < (a.length : Int) → 0 ≤ gt a j ∧ gt a j < n) (fun r => r = .inl () ∧ (∀ s ∈ a, 0 ≤ s ∧ s < n) ∨ ∃ k : Int, 0 ≤ k ∧ r = .inr k ∧ ¬ ∀ s ∈ a, 0 ≤ s ∧ s < n) (fun i => ((a.length : Int) - i).toNat) (fun i ⟨h0, h2⟩ => by
  unfold Q65.l0b Q135.f
  by_cases h1 : i < (a.length : Int)
  ·rw [if_pos h1, if_pos ⟨h0, h1⟩, in_run]
   simp only [Option.bind_some]
   by_cases hp : 0 ≤ gt a i ∧ gt a i < n
   ·right
    rw [wrap64 (x := i + 1) (by omega) (by omega)]
    refine ⟨i + 1, by simp [hp, nx], ⟨by omega, fun j j0 j1 j2 => ?_⟩, by omega⟩
    by_cases hj : j = i
    ·subst hj; exact hp
    ·exact h2 j j0 (by omega) j2
   ·left; exact ⟨.inr i, by simp [hp, upL], .inr ⟨i, h0, rfl, fun h => hp (h _ (Q48 h0 h1))⟩⟩
  ·left; rw [if_neg h1]
   refine ⟨_, rfl, .inl ⟨rfl, fun s hs => ?_⟩⟩
   obtain ⟨k, hk, rfl⟩ := List.getElem_of_mem hs
   have := h2 k (by omega) (by omega) (by omega)
   rwa [Q95 (List.getElem?_eq_getElem hk)] at this) 0 ⟨Int.le_refl _, fun j j0 j1 => by omega⟩
 obtain ⟨r', hr', hq'⟩ := key
 unfold Q116.f Q65.f Q65.l0
 rw [hr']
 rcases hq' with ⟨rfl, h⟩ | ⟨k, k0, rfl, h⟩
 ·exact ⟨false, rfl, by simp; exact h⟩
 ·exact ⟨true, by simp [jn, k0], by simp only [true_iff]; exact h⟩
end Go.Bw
namespace Go.Bw
open Go Go.RowKit

def W8 (v : BitVec 8) : Int := (v.toNat : Int)
theorem Q203 (v : BitVec 8) : BitVec.ofInt 8 (W8 v) = v := by
 unfold W8
 apply BitVec.eq_of_toNat_eq
 simp
theorem W8.inj {u v : BitVec 8} (h : W8 u = W8 v) : u = v := by rw [← Q203 u, h, Q203]
theorem wrap8 {x : Int} (h0 : 0 ≤ x) (h1 : x < 256) : IntKind.u8.wrap x = x := by
 simp [IntKind.wrap, IntKind.bits, IntKind.signed]
 omega
theorem wrap_w8 (v : BitVec 8) : IntKind.u8.wrap (v.toNat : Int) = W8 v := by
 have := v.isLt
 exact wrap8 (by omega) (by omega)
theorem bor_w8 (u v : BitVec 8) : bor .u8 (W8 u) (W8 v) = W8 (u ||| v) := by
 show IntKind.u8.wrap ((BitVec.ofInt 8 (W8 u) ||| BitVec.ofInt 8 (W8 v)).toNat : Int) = _
 rw [Q203, Q203, wrap_w8]
theorem shl8 {k : Int} (h0 : 0 ≤ k) (h1 : k < 8) : Bw.shl .u8 1 k = W8 (BitVec.twoPow 8 k.toNat) := by
 obtain ⟨m, rfl⟩ := Int.eq_ofNat_of_zero_le h0
 have hm : m < 8 := by omega
 match m, hm with
 | 0, _ => rfl
 | 1, _ => rfl
 | 2, _ => rfl
 | 3, _ => rfl
 | 4, _ => rfl
 | 5, _ => rfl
 | 6, _ => rfl
 | 7, _ => rfl
def full8 (m : Nat) : BitVec 8 := BitVec.allOnes 8 >>> (8 - m)
theorem full_run {m : Nat} (hm : m ≤ 8) : IntKind.u8.wrap (Bw.shl .u8 1 (m : Int) - 1) = W8 (full8 m) := by
 match m, hm with
 | 0, _ => rfl
 | 1, _ => rfl
 | 2, _ => rfl
 | 3, _ => rfl
 | 4, _ => rfl
 | 5, _ => rfl
 | 6, _ => rfl
 | 7, _ => rfl
 | 8, _ => rfl
theorem Q287 {m k : Nat} (hm : m ≤ 8) (hk : k < 8) : (full8 m).getLsbD k = decide (k < m) := by
 unfold full8
 rw [BitVec.getLsbD_ushiftRight, BitVec.getLsbD_allOnes]
 rw [decide_eq_decide]
 omega
def UsedS (m : Nat) (y : List Q1) : Prop := ∀ k : Int, 0 ≤ k → k < (m : Int) → ∃ e ∈ y, e.Action = k
def Mask (v : BitVec 8) (y : List Q1) : Prop := ∀ k : Nat, k < 8 → (v.getLsbD k = true ↔ ∃ e ∈ y, e.Action = (k : Int))
theorem Q286 {v : BitVec 8} {y : List Q1} {n : Int} {m : Nat} (hv : Mask v y) (hm : m ≤ 8) (he : ∀ e ∈ y, EdgeIn n m e) : v = full8 m ↔ UsedS m y := by
 constructor
 ·rintro rfl k k0 k1
  have := (hv k.toNat (by omega)).1 (by rw [Q287 hm (by omega)]; simp; omega)
  obtain ⟨e, h1, h2⟩ := this
  exact ⟨e, h1, by omega⟩
 ·intro h
  apply BitVec.eq_of_getLsbD_eq
  intro k hk
  rw [Q287 hm hk, Bool.eq_iff_iff, hv k hk, decide_eq_true_eq]
  constructor
  ·rintro ⟨e, h1, h2⟩
   have := (he e h1).2.2.2.2.2
   omega
  ·intro hkm
   exact h k (by omega) (by omega)
theorem edges_iff (n : Int) (x : List Bs) (y : List Q1) (z : List Q2) (hy : (y.length : Int) ≤ 9223372036854775807) (hx : x.length ≤ 8) :
 (∃ v, Q27.l0 n x y z 0 0 = some (.inl (W8 v)) ∧ Mask v y ∧ ∀ e ∈ y, EdgeIn n x.length e) ∨ (Q27.l0 n x y z 0 0 = some (.inr false) ∧ ¬ ∀ e ∈ y, EdgeIn n x.length e) := by
 obtain ⟨r, hr, hq⟩ := Q35 (body := fun t_ : Int × Int => Q27.l0b n x y z t_.1 t_.2) (fun s => 0 ≤ s.2 ∧ s.2 ≤ (y.length : Int) ∧ (∀ e ∈ y.take s.2.toNat, EdgeIn n x.length e) ∧ ∃ v, s.1 = W8 v ∧ Mask v (y.take s.2.toNat))
  (fun r => (∃ v, r = .inl (W8 v) ∧ Mask v y ∧ ∀ e ∈ y, EdgeIn n x.length e) ∨ (r = .inr false ∧ ¬ ∀ e ∈ y, EdgeIn n x.length e)) (fun s => ((y.length : Int) - s.2).toNat) (fun ⟨u, i⟩ ⟨h0, h1, h2, v, h3, h4⟩ => by
   dsimp only at h0 h1 h2 h3 h4 ⊢
   subst h3
   unfold Q27.l0b
   by_cases hi : i < (y.length : Int)
   ·have hm := Q48 h0 hi
    rw [if_pos hi, if_pos ⟨h0, hi⟩, in_run, in_run]
    simp only [Option.bind_some]
    by_cases e1 : 0 ≤ (gt y i).From ∧ (gt y i).From < n
    ·by_cases e2 : 0 ≤ (gt y i).To ∧ (gt y i).To < n
     ·by_cases e3 : (gt y i).Action < 0
      ·left; exact ⟨_, by simp [e1, e2, e3, jn, upL], .inr ⟨rfl, fun h => by have := (h _ hm).2.2.2.2.1; omega⟩⟩
      ·by_cases e4 : (x.length : Int) ≤ (gt y i).Action
       ·left; exact ⟨_, by simp [e1, e2, e3, e4, jn, upL], .inr ⟨rfl, fun h => by have := (h _ hm).2.2.2.2.2; omega⟩⟩
       ·right
        have e5 : 0 ≤ (gt y i).Action := by omega
        have hw : IntKind.i64.wrap (i + 1) = i + 1 := wrap64 (by omega) (by omega)
        have ht : y.take (i + 1).toNat = y.take i.toNat ++ [gt y i] := by
         rw [show (i + 1).toNat = i.toNat + 1 from by omega, List.take_add_one, Q68 h0 hi]; rfl
        refine ⟨(W8 (v ||| BitVec.twoPow 8 (gt y i).Action.toNat), i + 1), by simp [e1, e2, e3, e4, e5, jn, nx, hw, shl8 e5 (by omega), bor_w8], ⟨by dsimp only; omega, by dsimp only; omega, fun e he => ?_, _, rfl, fun k hk => ?_⟩, by dsimp only; omega⟩
        ·dsimp only at he
         rw [ht] at he
         rcases List.mem_append.1 he with he | he
         ·exact h2 e he
         ·simp at he; subst he
          exact ⟨e1.1, e1.2, e2.1, e2.2, e5, by omega⟩
        ·dsimp only
         rw [ht, BitVec.getLsbD_or, Bool.or_eq_true, h4 k hk, BitVec.getLsbD_twoPow]
         constructor
         ·rintro (⟨e, a, b⟩ | h)
          ·exact ⟨e, by simp [a], b⟩
          ·simp at h
           exact ⟨gt y i, by simp, by omega⟩
         ·rintro ⟨e, a, b⟩
          rcases List.mem_append.1 a with a | a
          ·exact .inl ⟨e, a, b⟩
          ·simp at a
           subst a
           right
           simp
           omega
     ·left; exact ⟨_, by simp [e1, e2, jn, upL], .inr ⟨rfl, fun h => e2 ⟨(h _ hm).2.2.1, (h _ hm).2.2.2.1⟩⟩⟩
    ·left; exact ⟨_, by simp [e1, jn, upL], .inr ⟨rfl, fun h => e1 ⟨(h _ hm).1, (h _ hm).2.1⟩⟩⟩
   ·left
    rw [if_neg hi]
    rw [List.take_of_length_le (by omega)] at h2 h4
    exact ⟨_, rfl, .inl ⟨v, rfl, h4, h2⟩⟩) (0, 0) ⟨Int.le_refl _, by dsimp only; omega, by simp, 0#8, rfl, fun k hk => by simp⟩
 rcases hq with ⟨v, rfl, h⟩ | ⟨rfl, h⟩
 ·exact .inl ⟨v, hr, h⟩
 ·exact .inr ⟨hr, h⟩
def PropS (n : Int) (p : Q2) : Prop := NameS p.Name ∧ StatesS n p.States
theorem props_iff (n : Int) (x : List Bs) (y : List Q1) (z : List Q2) (hz : (z.length : Int) ≤ 9223372036854775807) (hs : ∀ p ∈ z, (p.States.length : Int) ≤ 9223372036854775807) :
 (Q27.l1 n x y z 0 = some (.inl ()) ∧ ∀ p ∈ z, PropS n p) ∨ (Q27.l1 n x y z 0 = some (.inr false) ∧ ¬ ∀ p ∈ z, PropS n p) := by
 have key := Q177 (body := fun t_ : Int => Q27.l1b n x y z t_) (N := z.length) (p := fun i => PropS n (gt z i)) (bad := false) hz 0 (by decide) (fun i hi h1 => by
  simp only [Q27.l1b]
  obtain ⟨b1, hb1, c1⟩ := Q282 (gt z i).Name
  obtain ⟨b2, hb2, c2⟩ := Q309 (gt z i).States (hs _ (Q48 hi h1))
  obtain ⟨b3, hb3, c3⟩ := inS_iff (gt z i).States n x y z (hs _ (Q48 hi h1))
  rw [if_pos h1, if_pos ⟨hi, h1⟩, hb1, hb2, hb3]
  unfold PropS StatesS
  rw [← c1, ← c2]
  have c3' : (∀ s ∈ (gt z i).States, 0 ≤ s ∧ s < n) ↔ b3 = false := by
   cases b3 with
   | true => simp only [Bool.true_eq_false, iff_false]; exact c3.1 rfl
   | false => simp only [iff_true]; exact Classical.not_not.1 fun h => by have := c3.2 h; cases this
  rw [c3']
  cases b1 <;> cases b2 <;> cases b3 <;> simp [jn, nx, upL]) (fun i h => by simp only [Q27.l1b]; rw [if_neg h]; rfl)
 have hiff : (∀ i : Int, 0 ≤ i → i < (z.length : Int) → PropS n (gt z i)) ↔ ∀ p ∈ z, PropS n p := by
  constructor
  ·intro h p hp
   obtain ⟨k, hk, rfl⟩ := List.getElem_of_mem hp
   have := h k (by omega) (by omega)
   rwa [Q95 (List.getElem?_eq_getElem hk)] at this
  ·exact fun h i i0 i1 => h _ (Q48 i0 i1)
 rcases key with ⟨h, q⟩ | ⟨h, i, i0, i1, i2⟩
 ·exact .inl ⟨h, hiff.1 q⟩
 ·exact .inr ⟨h, fun hr => i2 (hiff.2 hr i i0 i1)⟩
structure RightS (n : Int) (x : List Bs) (y : List Q1) (z : List Q2) : Prop where
 n0 : 1 ≤ n
 n1 : n ≤ 24
 nx : x.length ≤ 8
 nz : z.length ≤ 8
 ny : y.length ≤ 200
 ed : ∀ e ∈ y, EdgeIn n x.length e
 pr : ∀ p ∈ z, PropS n p
 nm : ∀ s ∈ x, NameS s
 us : UsedS x.length y
 re : Rise edgeLt y
 rx : Rise BLt x
 rz : Rise (fun p q => BLt p.Name q.Name) z
theorem Q295 (n : Int) (x : List Bs) (y : List Q1) (z : List Q2) (hs : ∀ p ∈ z, (p.States.length : Int) ≤ 9223372036854775807) : ∃ b, Q27.f n x y z = some b ∧ (b = true ↔ RightS n x y z) := by
 have no : ∀ {P : Prop}, ¬ P → (false = true ↔ P) := fun h => ⟨fun e => (by cases e), fun p => absurd p h⟩
 unfold Q27.f
 by_cases h1 : n < 1
 ·exact ⟨false, by simp [h1, jn], no fun h => by have := h.n0; omega⟩
 by_cases h2 : 24 < n
 ·exact ⟨false, by simp [h1, h2, jn], no fun h => by have := h.n1; omega⟩
 by_cases h3 : 8 < (x.length : Int)
 ·exact ⟨false, by simp [h1, h2, h3, jn], no fun h => by have := h.nx; omega⟩
 by_cases h4 : 8 < (z.length : Int)
 ·exact ⟨false, by simp [h1, h2, h3, h4, jn], no fun h => by have := h.nz; omega⟩
 by_cases h5 : 200 < (y.length : Int)
 ·exact ⟨false, by simp [h1, h2, h3, h4, h5, jn], no fun h => by have := h.ny; omega⟩
 simp only [if_neg h1, Q12, decide_eq_false h2, decide_eq_false h3, decide_eq_false h4, decide_eq_false h5, Bool.false_eq_true, if_false]
 rcases edges_iff n x y z (by omega) (by omega) with ⟨v, hr, hm, he⟩ | ⟨hr, he⟩
 ·rw [hr, Q12]
  rcases props_iff n x y z (by omega) hs with ⟨hp, hpp⟩ | ⟨hp, hpp⟩
  ·rw [hp, Q12]
   obtain ⟨b1, hb1, c1⟩ := names_iff x (by omega)
   obtain ⟨b2, hb2, c2⟩ := Q335 y (by omega)
   obtain ⟨b3, hb3, c3⟩ := Q330 x (by omega)
   obtain ⟨b4, hb4, c4⟩ := Q352 z (by omega)
   have h0 : (0 : Int) ≤ (x.length : Int) := by omega
   have hu : (W8 v = W8 (full8 x.length)) ↔ UsedS x.length y := ⟨fun h => (Q286 hm (by omega) he).1 (W8.inj h), fun h => by rw [(Q286 hm (by omega) he).2 h]⟩
   simp only [hb1, hb2, hb3, hb4, Option.bind_some, if_pos h0, full_run (show x.length ≤ 8 by omega)]
   by_cases k1 : b1 = true
   ·subst k1
    exact ⟨false, by simp [jn], no fun h => c1.1 rfl h.nm⟩
   ·have k1' : b1 = false := by simpa using k1
    subst k1'
    have hnm : ∀ s ∈ x, NameS s := Classical.not_not.1 fun h => by have := c1.2 h; cases this
    by_cases k2 : W8 v = W8 (full8 x.length)
    ·cases b2 with
     | false => exact ⟨false, by simp [jn, k2], no fun h => by have := c2.2 h.re; cases this⟩
     | true =>
      cases b3 with
      | false => exact ⟨false, by simp [jn, k2], no fun h => by have := c3.2 h.rx; cases this⟩
      | true =>
       cases b4 with
       | false => exact ⟨false, by simp [jn, k2], no fun h => by have := c4.2 h.rz; cases this⟩
       | true => exact ⟨true, by simp [jn, k2], by simp only [true_iff]; exact ⟨by omega, by omega, by omega, by omega, by omega, he, hpp, hnm, hu.1 k2, c2.1 rfl, c3.1 rfl, c4.1 rfl⟩⟩
    ·exact ⟨false, by simp [jn, k2], no fun h => k2 (hu.2 h.us)⟩
  ·rw [hp]
   exact ⟨false, rfl, no fun h => hpp h.pr⟩
 ·rw [hr]
  exact ⟨false, rfl, no fun h => he h.ed⟩
end Go.Bw
namespace Go.Bw
open Go Go.RowKit

theorem rise_ne {z : List Q2} (h : Rise (fun p q => BLt p.Name q.Name) z) {i j : Int} (h0 : 0 ≤ i) (h1 : i < j) (h2 : j < (z.length : Int)) : (gt z i).Name ≠ (gt z j).Name := by
 have key : ∀ k : Nat, i + k + 1 < (z.length : Int) → BLt (gt z i).Name (gt z (i + k + 1)).Name := fun k => by
  induction k with
  | zero =>
   intro hk
   have := h (i + 1) (by omega) (by omega)
   rw [show i + 1 - 1 = i from by omega] at this
   rw [show i + ((0 : Nat) : Int) + 1 = i + 1 from by omega]
   exact this
  | succ k ih =>
   intro hk
   have h3 := ih (by omega)
   have h4 := h (i + (k + 1 : Nat) + 1) (by omega) (by omega)
   rw [show i + ((k + 1 : Nat) : Int) + 1 - 1 = i + k + 1 from by omega] at h4
   exact Q207 h3 h4
 have := key (j - i - 1).toNat (by omega)
 rw [show i + ((j - i - 1).toNat : Int) + 1 = j from by omega] at this
 intro e
 rw [e] at this
 unfold BLt at this
 rw [Q228] at this
 omega
end Go.Bw
namespace Go.Bw
open Go Go.RowKit

def B8 (v : BitVec 8) : Int := (v.toNat : Int)
theorem B8.inj {u v : BitVec 8} (h : B8 u = B8 v) : u = v := by
 apply BitVec.eq_of_toNat_eq
 unfold B8 at h
 omega
theorem b8wrap {x : Int} (h0 : 0 ≤ x) (h1 : x < 256) : IntKind.u8.wrap x = x := by
 simp [IntKind.wrap, IntKind.bits, IntKind.signed]
 omega
theorem Q283 (v : BitVec 8) : BitVec.ofInt 8 (B8 v) = v := by
 unfold B8
 apply BitVec.eq_of_toNat_eq
 simp
theorem bor_B8 (u v : BitVec 8) : bor .u8 (B8 u) (B8 v) = B8 (u ||| v) := by
 show IntKind.u8.wrap ((BitVec.ofInt 8 (B8 u) ||| BitVec.ofInt 8 (B8 v)).toNat : Int) = _
 rw [Q283, Q283]
 have := (u ||| v).isLt
 exact b8wrap (by omega) (by omega)
theorem b8shl : ∀ k : Fin 8, Bw.shl .u8 1 (k.1 : Int) = B8 (BitVec.twoPow 8 k.1) := by decide +kernel
def mk8 (p : Nat → Bool) : Nat → BitVec 8
 | 0 => 0#8
 | m + 1 => if p m = true then mk8 p m ||| BitVec.twoPow 8 m else mk8 p m
theorem Q184 (p : Nat → Bool) : ∀ (m : Nat), m ≤ 8 → ∀ i, i < 8 → (mk8 p m).getLsbD i = (decide (i < m) && p i)
 | 0, _, i, _ => by simp [mk8]
 | m + 1, hm, i, hi => by
  have ih := Q184 p m (by omega) i hi
  unfold mk8
  by_cases hp : p m = true
  ·rw [if_pos hp, BitVec.getLsbD_or, ih, BitVec.getLsbD_twoPow]
   by_cases h : i = m
   ·subst h; simp [hp, hi]
   ·have e1 : decide (i < m + 1) = decide (i < m) := decide_eq_decide.2 (by omega)
    have e2 : decide (m = i) = false := decide_eq_false (fun q => h q.symm)
    rw [e1, e2]; simp
  ·rw [if_neg hp, ih]
   by_cases h : i = m
   ·subst h; simp [hp]
   ·have e1 : decide (i < m + 1) = decide (i < m) := decide_eq_decide.2 (by omega)
    rw [e1]
theorem mk8_iff {p q : Nat → Bool} {m : Nat} (hm : m ≤ 8) : mk8 p m = mk8 q m ↔ ∀ i, i < m → p i = q i := by
 constructor
 ·intro h i hi
  have := congrArg (fun z => z.getLsbD i) h
  simp only [Q184 _ m hm i (by omega), decide_eq_true hi, Bool.true_and] at this
  exact this
 ·intro h
  apply BitVec.eq_of_getLsbD_eq
  intro i hi
  rw [Q184 _ m hm i hi, Q184 _ m hm i hi]
  by_cases h1 : i < m
  ·rw [h i h1]
  ·rw [decide_eq_false h1]; rfl
section
variable {n : Int} {x : List Bs} {y : List Q1} {z : List Q2} {next : List (Q7 × Q0)} {holds : List (Bs × Q0)}
def Hs (z : List Q2) (i : Nat) (s : Int) : Prop := i < z.length ∧ ∃ p ∈ z, p.Name = (gt z i).Name ∧ s ∈ p.States
def Es (x : List Bs) (y : List Q1) (i : Nat) (s t : Int) : Prop := i < x.length ∧ Hit x y ⟨s, gt x i⟩ t
noncomputable def hoW (hh : Hx z holds) (a : Bs) : W4 := (hh a).choose
theorem hoW_rep (hh : Hx z holds) (a : Bs) : (hoW hh a).Rep (fun t => ∃ p ∈ z, p.Name = a ∧ t ∈ p.States) := (hh a).choose_spec.2
theorem hoW_run (hh : Hx z holds) (n : Int) (next : List (Q7 × Q0)) (a : Bs) : Q71.f n holds next a = some (hoW hh a).t := by
 have h := (hh a).choose_spec.1
 unfold Q71.f
 rw [h]
 rfl
noncomputable def hoP (hh : Hx z holds) (s : Int) (i : Nat) : Bool := (hoW hh (gt z i).Name).has s
theorem Q200 (hh : Hx z holds) {s : Int} (s0 : 0 ≤ s) (s1 : s < 256) {i : Nat} (hi : i < z.length) : hoP hh s i = true ↔ Hs z i s := by
 unfold hoP Hs
 rw [hoW_rep hh _ s s0 s1]
 exact ⟨fun h => ⟨hi, h⟩, fun h => h.2⟩
theorem mask_l0 (hh : Hx z holds) (hz : z.length ≤ 8) {s : Int} (s0 : 0 ≤ s) (s1 : s < 256) : ∀ (q i : Nat), i + q = z.length →
 iter (fun t_ : (Option Q3) × Int × Int => Q44.l0b s z t_.1 t_.2.1 t_.2.2) (some ⟨n, holds, next⟩, B8 (mk8 (hoP hh s) i), (i : Int)) = some (.inl (some ⟨n, holds, next⟩, B8 (mk8 (hoP hh s) z.length))) := fun q => by
 induction q with
 | zero =>
  intro i hi
  have : i = z.length := by omega
  subst this
  refine Q174 ?_
  simp only [Q44.l0b]
  rw [if_neg (by omega)]
  rfl
 | succ q ih =>
  intro i hi
  have hlt : (i : Int) < (z.length : Int) := by omega
  have hw : IntKind.i64.wrap ((i : Int) + 1) = ((i + 1 : Nat) : Int) := by rw [wrap64 (by omega) (by omega)]; omega
  have hsh := b8shl ⟨i, by omega⟩
  have hb : Q44.l0b s z (some ⟨n, holds, next⟩) (B8 (mk8 (hoP hh s) i)) (i : Int) = some (.inl (some ⟨n, holds, next⟩, B8 (mk8 (hoP hh s) (i + 1)), ((i + 1 : Nat) : Int))) := by
   unfold Q44.l0b
   rw [if_pos hlt, if_pos ⟨by omega, hlt⟩]
   simp only [Option.isNone_some, if_true, Option.getD_some, hoW_run hh, Option.bind_some, W4.t, has_run, decide_eq_true (show 0 ≤ s ∧ s < 256 from ⟨s0, s1⟩), Bool.true_and]
   have hp : (hoW hh (gt z (i : Int)).Name).has s = hoP hh s i := rfl
   rw [hp]
   by_cases hc : hoP hh s i = true
   ·rw [if_pos hc, if_pos (by omega), Q12, hw, hsh, bor_B8]
    have : mk8 (hoP hh s) (i + 1) = mk8 (hoP hh s) i ||| BitVec.twoPow 8 i := by rw [mk8, if_pos hc]
    rw [this]
    rfl
   ·rw [if_neg hc, Q12, hw]
    have : mk8 (hoP hh s) (i + 1) = mk8 (hoP hh s) i := by rw [mk8, if_neg hc]
    rw [this]
    rfl
  rw [Q179 (body := fun t_ : (Option Q3) × Int × Int => Q44.l0b s z t_.1 t_.2.1 t_.2.2) hb]
  exact ih (i + 1) (by omega)
theorem mask_run (hh : Hx z holds) (hz : z.length ≤ 8) {s : Int} (s0 : 0 ≤ s) (s1 : s < 256) (m : Int) (x' : List Bs) (y' : List Q1) :
 Q44.f s m x' y' z (some ⟨n, holds, next⟩) = some (some ⟨n, holds, next⟩, B8 (mk8 (hoP hh s) z.length)) := by
 have h := mask_l0 (n := n) (next := next) hh hz s0 s1 z.length 0 (by omega)
 have h' : Q44.l0 s z (some ⟨n, holds, next⟩) 0 0 = some (.inl (some ⟨n, holds, next⟩, B8 (mk8 (hoP hh s) z.length))) := h
 unfold Q44.f
 rw [h', Q12]
theorem num8_run (hh : Hx z holds) (hn0 : 0 ≤ n) (hn : n ≤ 24) (hz : z.length ≤ 8) (m : Int) (x' : List Bs) (y' : List Q1) :
 ∃ l', Q45.f n m x' y' z (some ⟨n, holds, next⟩) = some (l', some ⟨n, holds, next⟩) ∧ NumBy (fun s => B8 (mk8 (hoP hh s) z.length)) n l' := by
 have hlen : (((List.replicate n.toNat (0 : Int)).length : Nat) : Int) = n := by simp; omega
 obtain ⟨r, hr, l', mp, rfl, hi⟩ := Q35 (body := fun t_ : (List Int) × (List (Int × Int)) × (Option Q3) × Int => Q45.l0b n m x' y' z t_.1 t_.2.1 t_.2.2.1 t_.2.2.2)
  (fun s => s.2.2.1 = some ⟨n, holds, next⟩ ∧ 0 ≤ s.2.2.2 ∧ s.2.2.2 ≤ n ∧ NInv (fun s => B8 (mk8 (hoP hh s) z.length)) n s.2.2.2 s.1 s.2.1)
  (fun r => ∃ l' mp, r = .inl (l', mp, some ⟨n, holds, next⟩) ∧ NInv (fun s => B8 (mk8 (hoP hh s) z.length)) n n l' mp) (fun s => (n - s.2.2.2).toNat) (fun ⟨a, mp, o, i⟩ ⟨h1, h2, h3, h4⟩ => by
   dsimp only at h1 h2 h3 h4 ⊢
   subst h1
   by_cases hi : i < n
   ·right
    have hs := mask_run (n := n) (next := next) hh hz h2 (by omega) m x' y'
    have hw : IntKind.i64.wrap (i + 1) = i + 1 := wrap64 (by omega) (by omega)
    cases hm : mget mp (B8 (mk8 (hoP hh i) z.length)) with
    | some v =>
     refine ⟨(st a i v, mp, some ⟨n, holds, next⟩, i + 1), ?_, ⟨rfl, by dsimp only; omega, by dsimp only; omega, h4.hit h2 hi hm⟩, by dsimp only; omega⟩
     unfold Q45.l0b
     rw [hlen, if_pos hi, hs, Option.bind_some]
     simp only [hm, Option.isSome_some, if_true, Option.getD_some, if_pos (show (0 : Int) ≤ i ∧ i < n from ⟨h2, hi⟩), Q12, hw]
     rfl
    | none =>
     refine ⟨(st a i (mp.length : Int), mset mp (B8 (mk8 (hoP hh i) z.length)) (mp.length : Int), some ⟨n, holds, next⟩, i + 1), ?_, ⟨rfl, by dsimp only; omega, by dsimp only; omega, h4.new h2 hi hm⟩, by dsimp only; omega⟩
     unfold Q45.l0b
     rw [hlen, if_pos hi, hs, Option.bind_some]
     have hk2 : mget (mset mp (B8 (mk8 (hoP hh i) z.length)) (mp.length : Int)) (B8 (mk8 (hoP hh i) z.length)) = some (mp.length : Int) := by rw [Q168, if_pos rfl]
     simp only [hm, hk2, Option.isSome_none, Bool.false_eq_true, if_false, Option.getD_some, if_pos (show (0 : Int) ≤ i ∧ i < n from ⟨h2, hi⟩), Q12, hw]
     rfl
   ·left
    have hin : i = n := by omega
    subst hin
    refine ⟨.inl (a, mp, some ⟨i, holds, next⟩), ?_, a, mp, rfl, h4⟩
    unfold Q45.l0b
    rw [hlen, if_neg hi]
    rfl) (List.replicate n.toNat 0, [], some ⟨n, holds, next⟩, 0) ⟨rfl, Int.le_refl _, hn0, NInv.zero hlen⟩
 refine ⟨l', ?_, hi.fin⟩
 unfold Q45.f
 have hl0 : Q45.l0 n m x' y' z (List.replicate n.toNat 0) [] (some ⟨n, holds, next⟩) 0 = some (.inl (l', mp, some ⟨n, holds, next⟩)) := hr
 rw [if_pos (by omega), hl0, Q12]
end
end Go.Bw
namespace Go.Bw
open Go Go.RowKit

theorem Q241 {a b : List Int} (hn : a.length = b.length) (ha : (a.length : Int) ≤ 9223372036854775807) : Q42.f a b = some (decide (a = b)) := by
 unfold Q42.f
 rw [if_pos (by omega)]
 obtain ⟨r, hr, hq⟩ := Q35 (body := fun t_ : Int => Q42.l0b a b t_) (fun i => 0 ≤ i ∧ i ≤ (a.length : Int) ∧ ∀ j : Int, 0 ≤ j → j < i → gt a j = gt b j)
  (fun r => (r = .inl () ∧ a = b) ∨ (r = .inr false ∧ a ≠ b)) (fun i => ((a.length : Int) - i).toNat) (fun i ⟨h0, h1, h2⟩ => by
   unfold Q42.l0b
   by_cases hi : i < (a.length : Int)
   ·rw [if_pos hi, if_pos ⟨h0, hi⟩, if_pos ⟨h0, by omega⟩]
    by_cases he : gt a i = gt b i
    ·right
     rw [if_pos he, wrap64 (x := i + 1) (by omega) (by omega)]
     refine ⟨_, rfl, ⟨by omega, by omega, fun j j0 j1 => ?_⟩, by omega⟩
     by_cases hj : j = i
     ·subst hj; exact he
     ·exact h2 j j0 (by omega)
    ·left
     rw [if_neg he]
     exact ⟨_, rfl, .inr ⟨rfl, fun e => he (by rw [e])⟩⟩
   ·left
    rw [if_neg hi]
    exact ⟨_, rfl, .inl ⟨rfl, ext_gt hn fun k hk => h2 k (by omega) (by omega)⟩⟩) 0 ⟨Int.le_refl _, by omega, fun j h0 h1 => by omega⟩
 have hl : Q42.l0 a b 0 = some r := hr
 rcases hq with ⟨rfl, h⟩ | ⟨rfl, h⟩
 ·rw [hl, Q12, decide_eq_true h]
 ·rw [hl, decide_eq_false h]; rfl
theorem putc_rep {u : W4} {S : Int → Prop} (h : u.Rep S) {c : Int} (h0 : 0 ≤ c) (h1 : c < 256) : (putc u c).Rep (fun m => S m ∨ m = c) := by
 unfold putc
 rw [if_pos ⟨h0, h1⟩]
 exact W4.put_rep h h0 h1
theorem Q212 (g : Int → Int) : ∀ {L : List Int} {u : W4} {S : Int → Prop}, u.Rep S → (∀ t ∈ L, 0 ≤ g t ∧ g t < 256) → (L.foldl (fun u t => putc u (g t)) u).Rep (fun c => S c ∨ ∃ t ∈ L, g t = c)
 | [], u, S, h, _ => fun n n0 n1 => by rw [List.foldl_nil, h n n0 n1]; simp
 | t :: L, u, S, h, hg => by
  have h1 := hg t (.head _)
  have ih := Q212 g (L := L) (putc_rep h h1.1 h1.2) fun s hs => hg s (.tail _ hs)
  rw [List.foldl_cons]
  intro n n0 n1
  rw [ih n n0 n1]
  constructor
  ·rintro ((h | h) | ⟨s, a, b⟩)
   ·exact .inl h
   ·exact .inr ⟨t, .head _, h.symm⟩
   ·exact .inr ⟨s, .tail _ a, b⟩
  ·rintro (h | ⟨s, a, b⟩)
   ·exact .inl (.inl h)
   ·rcases List.mem_cons.1 a with rfl | a
    ·exact .inl (.inr b.symm)
    ·exact .inr ⟨s, a, b⟩
theorem s_inj {u v : W4} (h : u.s = v.s) : u = v := by
 unfold W4.s at h
 simp only [Q0.mk.injEq] at h
 obtain ⟨h1, h2, h3, h4⟩ := h
 cases u
 cases v
 simp only [W4.mk.injEq]
 exact ⟨Wd.inj h1, Wd.inj h2, Wd.inj h3, Wd.inj h4⟩
theorem sgK_iff {c d : Int} {f g : Int → W4} : sgK c f = sgK d g ↔ c = d ∧ ∀ j : Int, 0 ≤ j → j < 8 → f j = g j := by
 unfold sgK
 simp only [Q18.mk.injEq, A68.mk.injEq]
 constructor
 ·rintro ⟨h, a, b, c, d, e, f, g, i⟩
  refine ⟨h, fun j j0 j1 => ?_⟩
  have hj : j = 0 ∨ j = 1 ∨ j = 2 ∨ j = 3 ∨ j = 4 ∨ j = 5 ∨ j = 6 ∨ j = 7 := by omega
  rcases hj with rfl | rfl | rfl | rfl | rfl | rfl | rfl | rfl <;> exact s_inj (by assumption)
 ·rintro ⟨h, k⟩
  refine ⟨h, ?_, ?_, ?_, ?_, ?_, ?_, ?_, ?_⟩ <;> (rw [k _ (by decide) (by decide)])
section
variable {n : Int} {x : List Bs} {y : List Q1} {z : List Q2} {next : List (Q7 × Q0)} {holds : List (Bs × Q0)}
theorem Q125 (hn : n ≤ 24) (he : ∀ e ∈ y, EdgeIn n x.length e) : Within n (Es x y) := fun a s t ⟨_, e, h1, h2, h3, _⟩ => by
 have h2' : e.From = s := h2
 have := he e h1
 unfold EdgeIn at this
 omega
theorem Q206 (hx : Nx x y next) (hn : n ≤ 24) (he : ∀ e ∈ y, EdgeIn n x.length e) {l : List Int} (hl : ∀ t : Int, 0 ≤ t → t < n → 0 ≤ gt l t ∧ gt l t < 256) (s : Int) {i : Nat} (hi : i < x.length) :
 (sgF hx l s x.length i).Rep (fun c => ∃ t, Es x y i s t ∧ gt l t = c) := by
 have h := Q212 (gt l) (L := (nxW hx s (gt x i)).list) W4.z_rep (fun t ht => by have := nxW_in hx hn he ht; exact hl t this.1 this.2)
 unfold sgF
 rw [if_pos ⟨by omega, by omega⟩]
 intro c c0 c1
 rw [h c c0 c1]
 constructor
 ·rintro (h | ⟨t, a, b⟩)
  ·exact h.elim
  ·exact ⟨t, ⟨hi, ((Q181 (Q222 hx s (gt x i))).1 a).2.2⟩, b⟩
 ·rintro ⟨t, a, b⟩
  have := Q125 hn he i s t a
  exact .inr ⟨t, (Q181 (Q222 hx s (gt x i))).2 ⟨by omega, by omega, a.2⟩, b⟩
theorem Q302 {l : List Int} (h : Canon l) : ∀ i : Int, 0 ≤ i → i < (l.length : Int) → 0 ≤ gt l i ∧ gt l i ≤ i := by
 have key : ∀ (k : Nat) (i : Int), i.toNat = k → 0 ≤ i → i < (l.length : Int) → gt l i ≤ i := fun k => by
  induction k using Nat.strongRecOn with
  | _ k ih =>
   intro i hk h0 h1
   by_cases hg : gt l i ≤ 0
   ·omega
   ·obtain ⟨j, j0, j1, j2⟩ := (h i h0 h1).2 (gt l i - 1) (by omega) (by omega)
    have := ih j.toNat (by omega) j rfl j0 (by omega)
    omega
 exact fun i h0 h1 => ⟨(h i h0 h1).1, key _ i rfl h0 h1⟩
structure CInv (n : Int) (x : List Bs) (y : List Q1) (z : List Q2) (l : List Int) : Prop where
 len : (l.length : Int) = n
 canon : Canon l
 coarse : ∀ s t : Int, 0 ≤ s → s < n → 0 ≤ t → t < n → Alike (Hs z) (Es x y) s t → gt l s = gt l t
 props : ∀ s t : Int, 0 ≤ s → s < n → 0 ≤ t → t < n → gt l s = gt l t → ∀ i, Hs z i s ↔ Hs z i t
theorem CInv.first (hh : Hx z holds) (hn : n ≤ 24) (hz : z.length ≤ 8) {l : List Int} (h : NumBy (fun s => B8 (mk8 (hoP hh s) z.length)) n l) : CInv n x y z l := by
 have key : ∀ s t : Int, 0 ≤ s → s < n → 0 ≤ t → t < n → (gt l s = gt l t ↔ ∀ i, Hs z i s ↔ Hs z i t) := fun s t s0 s1 t0 t1 => by
  rw [h.iff s t s0 s1 t0 t1]
  constructor
  ·intro e i
   by_cases hi : i < z.length
   ·have := (mk8_iff hz).1 (B8.inj e) i hi
    rw [← Q200 hh s0 (by omega) hi, ← Q200 hh t0 (by omega) hi, this]
   ·exact ⟨fun q => absurd q.1 hi, fun q => absurd q.1 hi⟩
  ·intro e
   refine congrArg B8 ((mk8_iff hz).2 fun i hi => ?_)
   rw [Bool.eq_iff_iff, Q200 hh s0 (by omega) hi, Q200 hh t0 (by omega) hi]
   exact e i
 exact ⟨h.len, h.canon, fun s t s0 s1 t0 t1 ha => (key s t s0 s1 t0 t1).2 (Alike.ks.hd s t ha), fun s t s0 s1 t0 t1 e => (key s t s0 s1 t0 t1).1 e⟩
theorem Q201 (hx : Nx x y next) (hn : n ≤ 24) (hl8 : x.length ≤ 8) (he : ∀ e ∈ y, EdgeIn n x.length e) {l l' : List Int} (c : CInv n x y z l) (h : NumBy (fun s => sgK (gt l s) (sgF hx l s x.length)) n l') {s t : Int} (s0 : 0 ≤ s) (s1 : s < n) (t0 : 0 ≤ t) (t1 : t < n) :
 gt l' s = gt l' t ↔ gt l s = gt l t ∧ ∀ i, ∀ d, (∃ s', Es x y i s s' ∧ gt l s' = d) ↔ (∃ t', Es x y i t t' ∧ gt l t' = d) := by
 have hlt : ∀ t : Int, 0 ≤ t → t < n → 0 ≤ gt l t ∧ gt l t < 256 := fun t t0 t1 => by have := Q302 c.canon t t0 (by rw [c.len]; exact t1); omega
 rw [h.iff s t s0 s1 t0 t1, sgK_iff]
 refine and_congr Iff.rfl ?_
 constructor
 ·intro e i d
  by_cases hi : i < x.length
  ·have hr := Q206 hx hn he hlt s hi
   have hr' := Q206 hx hn he hlt t hi
   have := e i (by omega) (by omega)
   rw [this] at hr
   constructor
   ·rintro ⟨s', a, b⟩
    have w := Q125 hn he i s s' a
    have hd := hlt s' w.2.2.1 w.2.2.2
    rw [b] at hd
    exact (hr' d hd.1 hd.2).1 ((hr d hd.1 hd.2).2 ⟨s', a, b⟩)
   ·rintro ⟨t', a, b⟩
    have w := Q125 hn he i t t' a
    have hd := hlt t' w.2.2.1 w.2.2.2
    rw [b] at hd
    exact (hr d hd.1 hd.2).1 ((hr' d hd.1 hd.2).2 ⟨t', a, b⟩)
  ·exact ⟨fun ⟨_, a, _⟩ => absurd a.1 hi, fun ⟨_, a, _⟩ => absurd a.1 hi⟩
 ·intro e j j0 j1
  by_cases hj : j < (x.length : Int)
  ·have hr := Q206 hx hn he hlt s (i := j.toNat) (by omega)
   have hr' := Q206 hx hn he hlt t (i := j.toNat) (by omega)
   rw [show ((j.toNat : Nat) : Int) = j from by omega] at hr hr'
   exact hr.uniq hr' fun d _ _ => e j.toNat d
  ·unfold sgF
   rw [if_neg (by omega), if_neg (by omega)]
theorem CInv.step (hx : Nx x y next) (hn : n ≤ 24) (hl8 : x.length ≤ 8) (he : ∀ e ∈ y, EdgeIn n x.length e) {l l' : List Int} (c : CInv n x y z l) (h : NumBy (fun s => sgK (gt l s) (sgF hx l s x.length)) n l') : CInv n x y z l' := by
 refine ⟨h.len, h.canon, fun s t s0 s1 t0 t1 ha => ?_, fun s t s0 s1 t0 t1 e => c.props s t s0 s1 t0 t1 ((Q201 hx hn hl8 he c h s0 s1 t0 t1).1 e).1⟩
 refine (Q201 hx hn hl8 he c h s0 s1 t0 t1).2 ⟨c.coarse s t s0 s1 t0 t1 ha, fun i d => ⟨fun ⟨s', a, b⟩ => ?_, fun ⟨t', a, b⟩ => ?_⟩⟩
 ·obtain ⟨t', a', q⟩ := Alike.ks.fw s t ha i s' a
  have w := Q125 hn he i s s' a
  have w' := Q125 hn he i t t' a'
  exact ⟨t', a', by rw [← c.coarse s' t' w.2.2.1 w.2.2.2 w'.2.2.1 w'.2.2.2 q]; exact b⟩
 ·obtain ⟨s', a', q⟩ := Alike.ks.bw s t ha i t' a
  have w := Q125 hn he i t t' a
  have w' := Q125 hn he i s s' a'
  exact ⟨s', a', by rw [c.coarse s' t' w'.2.2.1 w'.2.2.2 w.2.2.1 w.2.2.2 q]; exact b⟩
theorem CInv.fin (hx : Nx x y next) (hn : n ≤ 24) (hl8 : x.length ≤ 8) (he : ∀ e ∈ y, EdgeIn n x.length e) {l : List Int} (c : CInv n x y z l) (h : NumBy (fun s => sgK (gt l s) (sgF hx l s x.length)) n l) : Cls n (Hs z) (Es x y) l :=
 cls_of (Q125 hn he) c.len c.canon c.coarse fun s t s0 s1 t0 t1 e => ⟨c.props s t s0 s1 t0 t1 e, fun i s' a => by
  obtain ⟨t', a', b⟩ := (((Q201 hx hn hl8 he c h s0 s1 t0 t1).1 e).2 i (gt l s')).1 ⟨s', a, rfl⟩
  exact ⟨t', a', b.symm⟩⟩
theorem loop_run (hx : Nx x y next) (hn0 : 0 ≤ n) (hn : n ≤ 24) (hl8 : x.length ≤ 8) (he : ∀ e ∈ y, EdgeIn n x.length e) {l : List Int} (c : CInv n x y z l) :
 ∃ l', Q33.l0 n x y z l (some ⟨n, holds, next⟩) = some (.inr l') ∧ Cls n (Hs z) (Es x y) l' := by
 obtain ⟨r, hr, l', rfl, h⟩ := Q35 (body := fun t_ : (List Int) × (Option Q3) => Q33.l0b n x y z t_.1 t_.2) (fun s => s.2 = some ⟨n, holds, next⟩ ∧ CInv n x y z s.1)
  (fun r => ∃ l', r = .inr l' ∧ Cls n (Hs z) (Es x y) l') (fun s => pairs n.toNat fun a b => decide (gt s.1 (a : Int) = gt s.1 (b : Int))) (fun ⟨l, o⟩ ⟨h1, c⟩ => by
   dsimp only at h1 c ⊢
   subst h1
   obtain ⟨l', hl', hb⟩ := num_run (holds := holds) hx hn0 hn hl8 he l c.len n y z
   have c' := c.step hx hn hl8 he hb
   have hlen : l'.length = l.length := by have := c.len; have := hb.len; omega
   unfold Q33.l0b
   rw [hl', Option.bind_some, Q241 hlen (by have := hb.len; omega), Option.bind_some]
   by_cases e : l' = l
   ·left
    subst e
    rw [if_pos (decide_eq_true rfl)]
    exact ⟨_, rfl, l', rfl, c.fin hx hn hl8 he hb⟩
   ·right
    rw [if_neg (by simpa using e)]
    refine ⟨_, rfl, ⟨rfl, c'⟩, ?_⟩
    dsimp only
    have hsub : ∀ a b : Int, 0 ≤ a → a < n → 0 ≤ b → b < n → gt l' a = gt l' b → gt l a = gt l b := fun a b a0 a1 b0 b1 q => ((Q201 hx hn hl8 he c hb a0 a1 b0 b1).1 q).1
    have hex : ∃ a b : Int, (0 ≤ a ∧ a < n) ∧ (0 ≤ b ∧ b < n) ∧ gt l a = gt l b ∧ gt l' a ≠ gt l' b := Classical.byContradiction fun hno => e (hb.canon.uniq c.canon hlen fun a b a0 a1 b0 b1 => by
     rw [hb.len] at a1 b1
     exact ⟨hsub a b a0 a1 b0 b1, fun q => Classical.byContradiction fun q' => hno ⟨a, b, ⟨a0, a1⟩, ⟨b0, b1⟩, q, q'⟩⟩)
    obtain ⟨a, b, ⟨a0, a1⟩, ⟨b0, b1⟩, q1, q2⟩ := hex
    refine pairs_lt (fun i j hi hj q => ?_) (a := a.toNat) (b := b.toNat) (by omega) (by omega) ?_ ?_
    ·rw [decide_eq_true_eq] at q ⊢
     exact hsub i j (by omega) (by omega) (by omega) (by omega) q
    ·rw [show ((a.toNat : Nat) : Int) = a from by omega, show ((b.toNat : Nat) : Int) = b from by omega]
     exact decide_eq_false q2
    ·rw [show ((a.toNat : Nat) : Int) = a from by omega, show ((b.toNat : Nat) : Int) = b from by omega]
     exact decide_eq_true q1) (l, some ⟨n, holds, next⟩) ⟨rfl, c⟩
 exact ⟨l', hr, h⟩
end
theorem Q326 (n : Int) (x : List Bs) (y : List Q1) (z : List Q2) (hs : ∀ p ∈ z, (p.States.length : Int) ≤ 9223372036854775807) :
 (¬ RightS n x y z ∧ Q17.f n x y z = some none ∧ Q33.f n x y z = some []) ∨ (RightS n x y z ∧ ∃ l, Q33.f n x y z = some l ∧ Cls n (Hs z) (Es x y) l) := by
 obtain ⟨b, hb, hf⟩ := Q295 n x y z hs
 cases b with
 | false =>
  left
  have hN : Q17.f n x y z = some none := by unfold Q17.f; rw [hb]; simp
  refine ⟨fun h => (by have := hf.2 h; cases this), hN, ?_⟩
  unfold Q33.f
  rw [hN]
  rfl
 | true =>
  right
  have R := hf.1 rfl
  obtain ⟨m0, hm0, hh⟩ := Q290 z (by have := R.nz; omega) hs (fun i j h0 h1 h2 => rise_ne R.rz h0 h1 h2)
  obtain ⟨m1, hm1, hx⟩ := l1_run n x y (by have := R.ny; omega) R.ed R.n1
  have hN : Q17.f n x y z = some (some ⟨n, m0, m1⟩) := by unfold Q17.f; rw [hb]; simp [hm0, hm1, jn]
  obtain ⟨l0, hl0, hb0⟩ := num8_run (n := n) (next := m1) hh (by have := R.n0; omega) R.n1 R.nz n x y
  obtain ⟨l, hl, hc⟩ := loop_run (holds := m0) hx (by have := R.n0; omega) R.n1 R.nx R.ed (CInv.first (x := x) (y := y) hh R.n1 R.nz hb0)
  refine ⟨R, l, ?_, hc⟩
  unfold Q33.f
  rw [hN, Option.bind_some]
  simp only [Option.isNone_some, Bool.false_eq_true, if_false]
  rw [hl0, Option.bind_some, hl]
  rfl
end Go.Bw
namespace Go.Bw
open Go Go.RowKit

theorem Q139 {α : Type} {c : Prop} [Decidable c] {x y : Option α} (h1 : c → ∃ r, x = some r) (h2 : ¬ c → ∃ r, y = some r) : ∃ r, (if c then x else y) = some r := by
 split
 ·exact h1 ‹_›
 ·exact h2 ‹_›
theorem Q300 (a : Bs) (ha : (a.length : Int) ≤ 9223372036854775807) (lo hi : Int) : ∃ b, Q47.f a lo hi = some b := by
 unfold Q47.f
 by_cases h1 : (a.length : Int) < 1
 ·simp only [if_pos h1, Q12, if_true]; exact ⟨_, rfl⟩
 by_cases h2 : 8 < (a.length : Int)
 ·simp only [if_neg h1, Q12, if_true, decide_eq_true h2]; exact ⟨_, rfl⟩
 simp only [if_neg h1, Q12, decide_eq_false h2, Bool.false_eq_true, if_false]
 have h0 : (0 : Int) ≤ 0 ∧ 0 < (a.length : Int) := by omega
 refine Q144 (Q139 (fun _ => ⟨_, rfl⟩) fun h => absurd h0 h) fun x => Q144 (Q139 (fun _ => ⟨_, rfl⟩) fun _ => Q139 (fun _ => ⟨_, rfl⟩) fun h => absurd h0 h) fun x => Q139 (fun _ => ⟨_, rfl⟩) fun _ => ?_
 refine jn_true (up_loop (body := fun t_ : Int => Q47.l0b a t_) (N := a.length) (Q := fun _ => True) ha 0 (by decide) fun i hi => ?_)
 unfold Q47.l0b
 by_cases h1 : i < (a.length : Int)
 ·rw [if_pos h1, if_pos ⟨hi, h1⟩]
  simp only [jn_ite, Q12]
  repeat' split
  all_goals first
   | exact .inl ⟨_, rfl, trivial⟩
   | exact .inr ⟨h1, rfl⟩
 ·rw [if_neg h1]; exact .inl ⟨_, rfl, trivial⟩
theorem word_run (a : Bs) : ∃ b, Q121.f a = some b := by
 unfold Q121.f
 refine Q144 (Q139 (fun _ => ⟨_, rfl⟩) fun _ => ⟨_, rfl⟩) fun x => Q144 (Q139 (fun _ => ⟨_, rfl⟩) fun _ => ⟨_, rfl⟩) fun x => Q144 (Q139 (fun _ => ⟨_, rfl⟩) fun _ => ⟨_, rfl⟩) fun x => ⟨_, rfl⟩
theorem name_run2 (a : Bs) (ha : (a.length : Int) ≤ 9223372036854775807) : ∃ b, Q96.f a = some b := by
 unfold Q96.f
 obtain ⟨b, hb⟩ := Q300 a ha 97 122
 rw [hb, Option.bind_some]
 obtain ⟨c, hc⟩ := word_run a
 refine Q144 (Q139 (fun _ => ?_) fun _ => ⟨_, rfl⟩) fun x => ⟨_, rfl⟩
 rw [hc]
 exact ⟨_, rfl⟩
theorem Q328 (a : Bs) (ha : (a.length : Int) ≤ 9223372036854775807) : ∃ b, Q100.f a = some b := by
 unfold Q100.f
 obtain ⟨b, hb⟩ := Q300 a ha 65 90
 rw [hb]
 exact ⟨_, rfl⟩
def Arity (K k : Int) : Prop := (K = 1 ∨ K = 2 ∨ K = 3 ∨ K = 4) ∧ k = 0 ∨ K = 5 ∧ k = 1 ∨ Modal K ∧ k = 1 ∨ Fixy K ∧ k = 1 ∨ Twoy K ∧ k = 2
theorem below_run (K A B At : Int) (a : Bs) (ha : (a.length : Int) ≤ 9223372036854775807) : ∃ b k, Q115.f K A B a At = some (b, k) ∧ 0 ≤ k ∧ k ≤ 2 ∧ (b = true → Arity K k) := by
 obtain ⟨b1, h1⟩ := name_run2 a ha
 obtain ⟨b2, h2⟩ := Q328 a ha
 unfold Q115.f Arity Modal Fixy Twoy
 rw [h1, h2]
 simp only [Option.bind_some]
 by_cases k1 : K = 1
 ·subst k1; exact ⟨bseq a [], 0, by simp [Q12], by omega, by omega, by simp⟩
 by_cases k2 : K = 2
 ·subst k2; exact ⟨bseq a [], 0, by simp [Q12], by omega, by omega, by simp⟩
 by_cases k3 : K = 3
 ·subst k3; exact ⟨b1, 0, by simp [Q12], by omega, by omega, by simp⟩
 by_cases k4 : K = 4
 ·subst k4; exact ⟨b2, 0, by simp [Q12], by omega, by omega, by simp⟩
 by_cases k5 : K = 5
 ·subst k5; exact ⟨bseq a [], 1, by simp [Q12], by omega, by omega, by simp⟩
 by_cases k8 : K = 8
 ·subst k8
  by_cases hx : bseq a [45] = true
  ·exact ⟨true, 1, by simp [hx, Q12], by omega, by omega, by simp⟩
  ·exact ⟨b1, 1, by simp [hx, Q12], by omega, by omega, by simp⟩
 by_cases k9 : K = 9
 ·subst k9
  by_cases hx : bseq a [45] = true
  ·exact ⟨true, 1, by simp [hx, Q12], by omega, by omega, by simp⟩
  ·exact ⟨b1, 1, by simp [hx, Q12], by omega, by omega, by simp⟩
 by_cases k10 : K = 10
 ·subst k10; exact ⟨b2, 1, by simp [Q12], by omega, by omega, by simp⟩
 by_cases k11 : K = 11
 ·subst k11; exact ⟨b2, 1, by simp [Q12], by omega, by omega, by simp⟩
 by_cases k6 : K = 6
 ·subst k6; exact ⟨bseq a [], 2, by simp [Q12], by omega, by omega, by simp⟩
 by_cases k7 : K = 7
 ·subst k7; exact ⟨bseq a [], 2, by simp [Q12], by omega, by omega, by simp⟩
 exact ⟨false, 0, by simp [k1, k2, k3, k4, k5, k6, k7, k8, k9, k10, k11, Q12], by omega, by omega, by simp⟩
theorem Q347 (a : List Int) (ha : (a.length : Int) ≤ 9223372036854775807) : ∃ b, Q112.f a = some b := by
 unfold Q112.f Q55.f
 obtain ⟨b, hb⟩ := jn_int (up_loop (body := fun t_ : Int => Q55.l0b a t_) (N := a.length) (Q := fun _ => True) ha 0 (by decide) fun i hi => by
  unfold Q55.l0b Q130.f
  by_cases h1 : i < (a.length : Int)
  ·rw [if_pos h1, if_pos (by omega)]
   simp only [Option.bind_some]
   split
   ·exact .inl ⟨_, rfl, trivial⟩
   ·exact .inr ⟨h1, rfl⟩
  ·rw [if_neg h1]; exact .inl ⟨_, rfl, trivial⟩)
 have hb' : jn (Q55.l0 a 0) (fun (_ : Unit) => some (-1)) = some b := hb
 rw [hb']
 exact ⟨_, rfl⟩
def Ch (f : List Q9) : Int → List Int → Int → Prop
 | p, [], e => p = e
 | p, s :: r, e => Sb f p s ∧ Ch f (s + 1) r e
theorem Ch.app {f : List Q9} : ∀ {a b : List Int} {p e : Int}, Ch f p (a ++ b) e ↔ ∃ q, Ch f p a q ∧ Ch f q b e
 | [], b, p, e => by simp [Ch]
 | s :: a, b, p, e => by
  simp only [List.cons_append, Ch, Ch.app (a := a)]
  constructor
  ·rintro ⟨h, q, h1, h2⟩; exact ⟨q, ⟨h, h1⟩, h2⟩
  ·rintro ⟨q, ⟨h, h1⟩, h2⟩; exact ⟨h, q, h1, h2⟩
theorem Ch.len {f : List Q9} : ∀ {a : List Int} {p e : Int}, Ch f p a e → (a.length : Int) ≤ e - p
 | [], p, e, h => by simp [Ch] at h; simp [h]
 | s :: a, p, e, h => by
  have := h.1.le
  have := Ch.len h.2
  simp
  omega
theorem Q353 (f : List Q9) (hs : ∀ n ∈ f, (n.Name.length : Int) ≤ 9223372036854775807) : ∃ b, Q39.f f = some b ∧ (b = true → 1 ≤ f.length ∧ f.length ≤ 60 ∧ Sb f 0 ((f.length : Int) - 1)) := by
 unfold Q39.f
 by_cases h1 : (f.length : Int) < 1
 ·simp only [if_pos h1, Q12, if_true]; exact ⟨_, rfl, by simp⟩
 by_cases h2 : 60 < (f.length : Int)
 ·simp only [if_neg h1, Q12, if_true, decide_eq_true h2]; exact ⟨_, rfl, by simp⟩
 simp only [if_neg h1, Q12, decide_eq_false h2, Bool.false_eq_true, if_false]
 obtain ⟨r, hr, hq⟩ := Q35 (body := fun t_ : (List Int) × Int => Q39.l0b f t_.1 t_.2) (fun s => 0 ≤ s.2 ∧ s.2 ≤ (f.length : Int) ∧ Ch f 0 s.1 s.2)
  (fun r => (∃ s, r = .inl s ∧ Ch f 0 s f.length) ∨ r = .inr false) (fun s => ((f.length : Int) - s.2).toNat) (fun ⟨S, i⟩ ⟨i0, i1, hc⟩ => by
   dsimp only at i0 i1 hc ⊢
   have hl := hc.len
   unfold Q39.l0b
   by_cases hi : i < (f.length : Int)
   rotate_left
   ·left
    rw [if_neg hi]
    exact ⟨_, rfl, .inl ⟨S, rfl, by rwa [show (f.length : Int) = i by omega]⟩⟩
   obtain ⟨b, k, hb, k0, k2, hk⟩ := below_run (gt f i).Kind (gt f i).A (gt f i).B (gt f i).At (gt f i).Name (hs _ (Q48 i0 hi))
   rw [if_pos hi, if_pos ⟨i0, hi⟩, hb, Option.bind_some]
   dsimp only
   cases b with
   | false => left; simp only [Bool.false_eq_true, if_false, Q12, if_true]; exact ⟨_, rfl, .inr rfl⟩
   | true =>
   simp only [if_true, Q12]
   by_cases hSk : (S.length : Int) < k
   ·left; simp only [decide_eq_true hSk, if_true]; exact ⟨_, rfl, .inr rfl⟩
   rw [decide_eq_false hSk]
   simp only [Bool.false_eq_true, if_false]
   obtain ⟨c, hcn⟩ := Q347 (([(gt f i).A, (gt f i).B] : List Int).drop k.toNat) (by simp; omega)
   rw [if_pos (by simp; omega), hcn, Option.bind_some]
   cases c with
   | true => left; simp only [if_true, Q12]; exact ⟨_, rfl, .inr rfl⟩
   | false =>
   rw [wrap64 (x := (S.length : Int) - k) (by omega) (by omega), if_neg (by simp), if_pos (by omega), Q241 (by simp; omega) (by simp; omega), Option.bind_some, Q12]
   by_cases he : S.drop ((S.length : Int) - k).toNat = ([(gt f i).A, (gt f i).B] : List Int).take k.toNat
   rotate_left
   ·left; simp only [decide_eq_false he, Bool.not_false, if_true]; exact ⟨_, rfl, .inr rfl⟩
   right
   simp only [decide_eq_true he, Bool.not_true, Bool.false_eq_true, if_false]
   rw [if_pos (by omega), if_pos (by simp; omega), wrap64 (x := i + 1) (by omega) (by omega)]
   refine ⟨_, rfl, ⟨by dsimp only; omega, by dsimp only; omega, ?_⟩, by dsimp only; omega⟩
   dsimp only
   have hSS : S = S.take ((S.length : Int) - k).toNat ++ ([(gt f i).A, (gt f i).B] : List Int).take k.toNat := by rw [← he, List.take_append_drop]
   rw [hSS] at hc
   obtain ⟨q, hc1, hc2⟩ := Ch.app.1 hc
   refine Ch.app.2 ⟨q, hc1, ?_⟩
   have key : Sb f q i → Ch f q [i] (i + 1) := fun h => ⟨h, rfl⟩
   apply key
   rcases hk rfl with ⟨hK, rfl⟩ | ⟨hK, rfl⟩ | ⟨hK, rfl⟩ | ⟨hK, rfl⟩ | ⟨hK, rfl⟩
   ·simp [Ch] at hc2
    subst hc2
    exact .leaf i0 hi (by unfold Leafy; omega)
   ·simp [Ch] at hc2
    exact .not hi hK (by omega) (by rw [show i - 1 = (gt f i).A by omega]; exact hc2.1)
   ·simp [Ch] at hc2
    exact .modal hi hK (by omega) (by rw [show i - 1 = (gt f i).A by omega]; exact hc2.1)
   ·simp [Ch] at hc2
    exact .fix hi hK (by omega) (by rw [show i - 1 = (gt f i).A by omega]; exact hc2.1)
   ·simp [Ch] at hc2
    exact .two hi hK rfl (by omega) hc2.1 (by rw [show i - 1 = (gt f i).B by omega]; exact hc2.2.1)) ([], 0) ⟨by decide, by dsimp only; omega, rfl⟩
 have hr' : Q39.l0 f [] 0 = some r := hr
 rw [hr']
 rcases hq with ⟨s, rfl, hc⟩ | rfl
 ·refine ⟨_, rfl, fun hb => ⟨by omega, by omega, ?_⟩⟩
  match s, hc, of_decide_eq_true hb with
  | [a], hc, _ =>
   have : a + 1 = f.length := hc.2
   rw [show (f.length : Int) - 1 = a by omega]
   exact hc.1
  | [], _, h => simp at h
  | a :: b :: s, _, h => simp at h; omega
 ·exact ⟨_, rfl, by simp⟩
end Go.Bw
namespace Go.Bw
open Go Go.RowKit

def Ev {ρ : Type} (N : Nat → Option ρ) (r : ρ) : Prop := ∃ d, ∀ k, N k = some r ∨ (k < d ∧ N k = none)
theorem Ev.recF {ρ : Type} {N : Nat → Option ρ} {r : ρ} (h : Ev N r) : Bw.recF N = some r := by
 obtain ⟨d, h⟩ := h
 have hd : (N d).isSome = true := by rcases h d with e | e <;> first | (simp [e]; done) | omega
 obtain ⟨r', h1, h2⟩ := recF_of (n := N) (Q := fun x => x = r) ⟨d, hd⟩ (fun k x hx => by rcases h k with h | h <;> rw [hx] at h <;> simp_all)
 rw [h1, h2]
theorem Ev.const {ρ : Type} (r : ρ) : Ev (fun _ => some r) r := ⟨0, fun _ => .inl rfl⟩
theorem Ev.succ {ρ : Type} {N M : Nat → Option ρ} {r : ρ} (h0 : N 0 = none) (h : ∀ k, N (k + 1) = M k) (e : Ev M r) : Ev N r := by
 obtain ⟨d, e⟩ := e
 refine ⟨d + 1, fun k => ?_⟩
 cases k with
 | zero => exact .inr ⟨by omega, h0⟩
 | succ k =>
  rw [h]
  rcases e k with e | e
  ·exact .inl e
  ·exact .inr ⟨by omega, e.2⟩
theorem Ev.bind {α ρ : Type} {M : Nat → Option α} {F : Nat → α → Option ρ} {a : α} {r : ρ} (e : Ev M a) (g : Ev (fun k => F k a) r) : Ev (fun k => (M k).bind (F k)) r := by
 obtain ⟨d, e⟩ := e
 obtain ⟨d', g⟩ := g
 refine ⟨d + d', fun k => ?_⟩
 rcases e k with e | e
 ·dsimp only
  rw [e, Option.bind_some]
  rcases g k with g | g
  ·exact .inl g
  ·exact .inr ⟨by omega, g.2⟩
 ·exact .inr ⟨by omega, by dsimp only; rw [e.2]; rfl⟩
theorem Bd.wide {f : List Q9} {to : List Int} {sc : List (Int × Bool)} {l n : Int} (b : Bd f to sc l n) : ∀ {sc' : List (Int × Bool)}, (∀ p ∈ sc, p ∈ sc') → Bd f to sc' l n := by
 induction b with
 | var h0 h1 hk hs => exact fun h => .var h0 h1 hk (h _ hs)
 | leaf h0 h1 hk h4 => exact fun h => .leaf h0 h1 hk h4
 | not h1 hk ha s ih => exact fun h => .not h1 hk ha (ih fun p hp => by
  obtain ⟨q, hq, rfl⟩ := List.mem_map.1 hp
  exact List.mem_map.2 ⟨q, h q hq, rfl⟩)
 | modal h1 hk ha s ih => exact fun h => .modal h1 hk ha (ih h)
 | fix h1 hk ha s ih => exact fun h => .fix h1 hk ha (ih fun p hp => by
  rcases List.mem_cons.1 hp with rfl | hp
  ·exact List.mem_cons_self
  ·exact List.mem_cons_of_mem _ (h p hp))
 | two h1 hk ha hb s t ih1 ih2 => exact fun h => .two h1 hk ha hb (ih1 h) (ih2 h)
theorem Bd.congr {f : List Q9} {to to' : List Int} {sc : List (Int × Bool)} {l n : Int} (b : Bd f to sc l n) : (∀ v, l ≤ v → v ≤ n → gt to' v = gt to v) → Bd f to' sc l n := by
 induction b with
 | var h0 h1 hk hs => exact fun h => .var h0 h1 hk (by rw [h _ (Int.le_refl _) (Int.le_refl _)]; exact hs)
 | leaf h0 h1 hk h4 => exact fun h => .leaf h0 h1 hk h4
 | not h1 hk ha s ih => exact fun h => .not h1 hk ha (ih fun v h0 h1 => h v h0 (by omega))
 | modal h1 hk ha s ih => exact fun h => .modal h1 hk ha (ih fun v h0 h1 => h v h0 (by omega))
 | fix h1 hk ha s ih => exact fun h => .fix h1 hk ha (ih fun v h0 h1 => h v h0 (by omega))
 | two h1 hk ha hb s t ih1 ih2 =>
  have := s.le
  have := t.le
  exact fun h => .two h1 hk ha hb (ih1 fun v h0 h1 => h v h0 (by omega)) (ih2 fun v h0 h1 => h v (by omega) (by omega))
theorem find_run (f : List Q9) (S : List Q14) (nots : Int) (to : List Int) (odd : List Bool) (dep : List Int) (a : Bs) (hS : ∀ p ∈ S, 0 ≤ p.node ∧ p.node < (f.length : Int)) (hl : (S.length : Int) ≤ 1000) :
 ∃ r, Q53.f f S nots to odd dep a = some r ∧ (r = (false, 0, 0) ∨ ∃ p ∈ S, r = (true, p.node, p.nots)) := by
 unfold Q53.f
 obtain ⟨r, hr, hq⟩ := Q35 (body := fun t_ : Int => Q53.l0b f S a t_) (fun i => -1 ≤ i ∧ i < (S.length : Int))
  (fun r => r = .inl () ∨ ∃ p ∈ S, r = .inr (true, p.node, p.nots)) (fun i => (i + 1).toNat) (fun i ⟨h0, h1⟩ => by
   unfold Q53.l0b
   by_cases hi : 0 ≤ i
   ·have hm := Q48 hi h1
    rw [if_pos hi, if_pos ⟨hi, h1⟩, if_pos (hS _ hm)]
    split
    ·exact .inl ⟨_, rfl, .inr ⟨_, hm, rfl⟩⟩
    ·rw [wrap64 (x := i - 1) (by omega) (by omega)]
     exact .inr ⟨_, rfl, by omega, by omega⟩
   ·rw [if_neg hi]; exact .inl ⟨_, rfl, .inl rfl⟩) ((S.length : Int) - 1) (by omega)
 have hr' : Q53.l0 f S a ((S.length : Int) - 1) = some r := hr
 rw [wrap64 (by omega) (by omega), hr']
 rcases hq with rfl | ⟨p, hp, rfl⟩
 ·exact ⟨_, rfl, .inl rfl⟩
 ·exact ⟨_, rfl, .inr ⟨p, hp, rfl⟩⟩
def scp (nots : Int) (p : Q14) : Int × Bool := (p.node, decide ((nots - p.nots) % 2 = 0))
theorem scp_flip (nots : Int) (S : List Q14) : S.map (scp (nots + 1)) = (S.map (scp nots)).map fun p => (p.1, !p.2) := by
 rw [List.map_map]
 apply List.map_congr_left
 intro p _
 simp only [scp, Function.comp]
 congr 1
 rw [Bool.eq_iff_iff]
 simp
 omega
structure Wk (f : List Q9) (l n nots : Int) (S : List Q14) (to : List Int) (odd : List Bool) (dep : List Int) (to' : List Int) (odd' : List Bool) (dep' : List Int) : Prop where
 l1 : to'.length = f.length
 l2 : odd'.length = f.length
 l3 : dep'.length = f.length
 fr : ∀ m, 0 ≤ m → m < l ∨ n < m → gt to' m = gt to m ∧ gt odd' m = gt odd m
 bd : (∀ m, l ≤ m → m ≤ n → (gt f m).Kind = 4 → 0 ≤ gt to' m ∧ gt odd' m = false) → (∀ m, l ≤ m → m ≤ n → gt to m = -1) → Bd f to' (S.map (scp nots)) l n
theorem walk_run {f : List Q9} (hf : f.length ≤ 60) {l n : Int} (s : Sb f l n) : ∀ (S : List Q14) (nots : Int) (to : List Int) (odd : List Bool) (dep : List Int), to.length = f.length → odd.length = f.length → dep.length = f.length →
 (∀ p ∈ S, 0 ≤ p.node ∧ p.node < (f.length : Int) ∧ 0 ≤ p.nots ∧ p.nots ≤ nots) → 0 ≤ nots → nots + (n - l) ≤ 100 → (S.length : Int) + (n - l) ≤ 100 →
 ∃ to' odd' dep', Ev (fun k => Q25.n k f S nots to odd dep n) (odd', to', S, dep', nots) ∧ Wk f l n nots S to odd dep to' odd' dep' := by
 induction s with
 | @leaf n h0 h1 hk =>
  intro S nots to odd dep e1 e2 e3 hS hn hn2 hl
  by_cases k4 : (gt f n).Kind = 4
  ·obtain ⟨r, hr, hq⟩ := find_run f S nots to odd dep (gt f n).Name (fun p hp => ⟨(hS p hp).1, (hS p hp).2.1⟩) (by omega)
   rcases hq with rfl | ⟨p, hp, rfl⟩
   ·refine ⟨to, odd, dep, Ev.succ rfl (fun k => rfl) ?_, e1, e2, e3, fun _ _ _ => ⟨rfl, rfl⟩, fun ha hb => ?_⟩
    ·simp only [Q25.n, Q25.g, if_pos (And.intro h0 h1), if_pos k4, hr, Option.bind_some, Bool.false_eq_true, if_false]
     exact Ev.const _
    ·have := (ha n (by omega) (by omega) k4).1
     have := hb n (by omega) (by omega)
     omega
   ·have hp' := hS p hp
    refine ⟨st to n p.node, st odd n (!(decide (Int.tmod (nots - p.nots) 2 = 0))), dep, Ev.succ rfl (fun k => rfl) ?_, by rw [Q87, e1], by rw [Q87, e2], e3, fun m hm h => ?_, fun ha hb => ?_⟩
    ·simp only [Q25.n, Q25.g, if_pos (And.intro h0 h1), if_pos k4, hr, Option.bind_some, if_true, e1, e2]
     rw [wrap64 (x := nots - p.nots) (by omega) (by omega)]
     exact Ev.const _
    ·rw [Q74 h0 (by omega) hm, Q74 h0 (by omega) hm, if_neg (by omega), if_neg (by omega)]
     exact ⟨rfl, rfl⟩
    ·have := (ha n (by omega) (by omega) k4).2
     rw [Q74 h0 (by omega) h0, if_pos rfl] at this
     refine .var h0 h1 k4 ?_
     rw [Q74 h0 (by omega) h0, if_pos rfl]
     refine List.mem_map.2 ⟨p, hp, ?_⟩
     simp only [scp]
     congr 1
     simp at this
     rw [Int.tmod_eq_emod_of_nonneg (by omega)] at this
     simpa using this
  ·refine ⟨to, odd, dep, Ev.succ rfl (fun k => rfl) ?_, e1, e2, e3, fun _ _ _ => ⟨rfl, rfl⟩, fun ha hb => .leaf h0 h1 hk k4⟩
   have : (gt f n).Kind ≠ 5 ∧ (gt f n).Kind ≠ 6 ∧ (gt f n).Kind ≠ 7 ∧ (gt f n).Kind ≠ 8 ∧ (gt f n).Kind ≠ 9 ∧ (gt f n).Kind ≠ 10 ∧ (gt f n).Kind ≠ 11 := by unfold Leafy at hk; omega
   simp only [Q25.n, Q25.g, if_pos (And.intro h0 h1), if_neg k4, if_neg this.1, if_neg this.2.1, if_neg this.2.2.1, if_neg this.2.2.2.1, if_neg this.2.2.2.2.1, if_neg this.2.2.2.2.2.1, if_neg this.2.2.2.2.2.2, decide_eq_false this.2.2.1, decide_eq_false this.2.2.2.2.1, decide_eq_false this.2.2.2.2.2.2, Q12, Bool.false_eq_true, if_false]
   exact Ev.const _
 | @not l n h1 hk ha s ih =>
  intro S nots to odd dep e1 e2 e3 hS hn hn2 hl
  have := s.le
  obtain ⟨to', odd', dep', he, w⟩ := ih S (nots + 1) to odd dep e1 e2 e3 (fun p hp => by have := hS p hp; omega) (by omega) (by omega) (by omega)
  refine ⟨to', odd', st dep' n (gt dep' (n - 1)), Ev.succ rfl (fun k => rfl) ?_, w.l1, w.l2, by rw [Q87, w.l3], fun m hm h => w.fr m hm (by omega), fun h4 hto => .not h1 hk ha ?_⟩
  ·simp only [Q25.n, Q25.g, if_pos (And.intro (show 0 ≤ n by omega) h1), hk, ha, wrap64 (x := nots + 1) (by omega) (by omega), show ¬ ((5 : Int) = 4) by decide, if_false, if_true]
   refine Ev.bind he ?_
   dsimp only
   rw [if_pos (by omega), if_pos (by omega), wrap64 (x := nots + 1 - 1) (by omega) (by omega), show nots + 1 - 1 = nots by omega]
   exact Ev.const _
  ·rw [← scp_flip]
   exact w.bd (fun m a b c => h4 m a (by omega) c) (fun m a b => hto m a (by omega))
 | @modal l n h1 hk ha s ih =>
  intro S nots to odd dep e1 e2 e3 hS hn hn2 hl
  have := s.le
  obtain ⟨to', odd', dep', he, w⟩ := ih S nots to odd dep e1 e2 e3 hS (by omega) (by omega) (by omega)
  refine ⟨to', odd', st dep' n (gt dep' (n - 1)), Ev.succ rfl (fun k => rfl) ?_, w.l1, w.l2, by rw [Q87, w.l3], fun m hm h => w.fr m hm (by omega), fun h4 hto => .modal h1 hk ha ?_⟩
  ·have : (if (gt f n).Kind = 8 then (some (.inl (decide ((gt f n).Kind = 8))) : Option (Bool ⊕ ((List Bool) × (List Int) × (List Q14) × (List Int) × Int))) else some (.inl (decide ((gt f n).Kind = 9)))) = some (.inl true) := by
    rcases hk with hk | hk <;> simp [hk]
   have h45 : (gt f n).Kind ≠ 4 ∧ (gt f n).Kind ≠ 5 := by unfold Modal at hk; omega
   simp only [Q25.n, Q25.g, if_pos (And.intro (show 0 ≤ n by omega) h1), this, ha, if_neg h45.1, if_neg h45.2, Q12, if_true]
   refine Ev.bind he ?_
   dsimp only
   rw [if_pos (by omega), if_pos (by omega)]
   exact Ev.const _
  ·exact w.bd (fun m a b c => h4 m a (by omega) c) (fun m a b => hto m a (by omega))
 | @fix l n h1 hk ha s ih =>
  intro S nots to odd dep e1 e2 e3 hS hn hn2 hl
  have := s.le
  obtain ⟨to', odd', dep', he, w⟩ := ih (S ++ [⟨n, nots⟩]) nots to odd dep e1 e2 e3 (fun p hp => by
   rcases List.mem_append.1 hp with hp | hp
   ·exact hS p hp
   ·rw [List.mem_singleton.1 hp]; dsimp only; omega) (by omega) (by omega) (by simp; omega)
  refine ⟨to', odd', st dep' n (IntKind.i64.wrap (gt dep' (n - 1) + 1)), Ev.succ rfl (fun k => rfl) ?_, w.l1, w.l2, by rw [Q87, w.l3], fun m hm h => w.fr m hm (by omega), fun h4 hto => .fix h1 hk ha ?_⟩
  ·have t1 : (if (gt f n).Kind = 10 then (some (.inl (decide ((gt f n).Kind = 10))) : Option (Bool ⊕ ((List Bool) × (List Int) × (List Q14) × (List Int) × Int))) else some (.inl (decide ((gt f n).Kind = 11)))) = some (.inl true) := by
    rcases hk with hk | hk <;> simp [hk]
   have h45 : (gt f n).Kind ≠ 4 ∧ (gt f n).Kind ≠ 5 ∧ (gt f n).Kind ≠ 8 ∧ (gt f n).Kind ≠ 9 ∧ (gt f n).Kind ≠ 6 ∧ (gt f n).Kind ≠ 7 := by unfold Fixy at hk; omega
   simp only [Q25.n, Q25.g, if_pos (And.intro (show 0 ≤ n by omega) h1), t1, ha, if_neg h45.1, if_neg h45.2.1, if_neg h45.2.2.1, if_neg h45.2.2.2.2.1, decide_eq_false h45.2.2.2.1, decide_eq_false h45.2.2.2.2.2, Bool.false_eq_true, if_false, Q12, if_true]
   have hsz : (S.length + [(⟨n, nots⟩ : Q14)].length) * 16 ≤ 140737488355328 := by simp; omega
   simp only [if_pos hsz]
   refine Ev.bind he ?_
   dsimp only
   rw [wrap64 (x := ((S ++ [(⟨n, nots⟩ : Q14)]).length : Int) - 1) (by rw [List.length_append]; omega) (by rw [List.length_append]; simp; omega), if_pos (by rw [List.length_append]; simp; omega), if_pos (by omega), if_pos (by omega)]
   rw [show (((S ++ [(⟨n, nots⟩ : Q14)]).length : Int) - 1).toNat = S.length by simp, List.take_left' rfl]
   exact Ev.const _
  ·refine (w.bd (fun m a b c => h4 m a (by omega) c) (fun m a b => hto m a (by omega))).wide fun p hp => ?_
   rw [List.map_append] at hp
   rcases List.mem_append.1 hp with hp | hp
   ·exact List.mem_cons_of_mem _ hp
   ·simp [scp] at hp
    rw [hp]; exact List.mem_cons_self
 | @two l m n h1 hk ha hb s t ih1 ih2 =>
  intro S nots to odd dep e1 e2 e3 hS hn hn2 hl
  have := s.le
  have := t.le
  obtain ⟨to1, odd1, dep1, he1, w1⟩ := ih1 S nots to odd dep e1 e2 e3 hS (by omega) (by omega) (by omega)
  obtain ⟨to2, odd2, dep2, he2, w2⟩ := ih2 S nots to1 odd1 dep1 w1.l1 w1.l2 w1.l3 hS (by omega) (by omega) (by omega)
  refine ⟨to2, odd2, st dep2 n (if gt dep2 m < gt dep2 (n - 1) then gt dep2 (n - 1) else gt dep2 m), Ev.succ rfl (fun k => rfl) ?_, w2.l1, w2.l2, by rw [Q87, w2.l3], fun q hq h => ?_, fun h4 hto => .two h1 hk ha hb ?_ ?_⟩
  ·have t1 : (if (gt f n).Kind = 6 then (some (.inl (decide ((gt f n).Kind = 6))) : Option (Bool ⊕ ((List Bool) × (List Int) × (List Q14) × (List Int) × Int))) else some (.inl (decide ((gt f n).Kind = 7)))) = some (.inl true) := by
    rcases hk with hk | hk <;> simp [hk]
   have h45 : (gt f n).Kind ≠ 4 ∧ (gt f n).Kind ≠ 5 ∧ (gt f n).Kind ≠ 8 ∧ (gt f n).Kind ≠ 9 := by unfold Twoy at hk; omega
   simp only [Q25.n, Q25.g, if_pos (And.intro (show 0 ≤ n by omega) h1), t1, ha, hb, if_neg h45.1, if_neg h45.2.1, if_neg h45.2.2.1, decide_eq_false h45.2.2.2, Bool.false_eq_true, if_false, Q12, if_true]
   refine Ev.bind he1 (Ev.bind he2 ?_)
   dsimp only
   rw [if_pos (by omega), if_pos (by omega), if_pos (by omega)]
   exact Ev.const _
  ·have a := w1.fr q hq (by omega)
   have b := w2.fr q hq (by omega)
   exact ⟨b.1.trans a.1, b.2.trans a.2⟩
  ·refine (w1.bd (fun q a b c => ?_) (fun q a b => hto q a (by omega))).congr fun v a b => (w2.fr v (by omega) (by omega)).1
   have := w2.fr q (by omega) (by omega)
   rw [← this.1, ← this.2]
   exact h4 q a (by omega) c
  ·refine w2.bd (fun q a b c => h4 q (by omega) (by omega) c) (fun q a b => ?_)
   rw [(w1.fr q (by omega) (by omega)).1]
   exact hto q (by omega) (by omega)
end Go.Bw
namespace Go.Bw
open Go Go.RowKit

theorem Q350 {f : List Q9} (h1 : 1 ≤ f.length) (hf : f.length ≤ 60) (s : Sb f 0 ((f.length : Int) - 1)) :
 ∃ to odd dep, Q40.f f = some ([], to, odd, dep, 0) ∧ to.length = f.length ∧ odd.length = f.length ∧ dep.length = f.length ∧
  ((∀ m, 0 ≤ m → m < (f.length : Int) → (gt f m).Kind = 4 → 0 ≤ gt to m ∧ gt odd m = false) → Bd f to [] 0 ((f.length : Int) - 1)) := by
 obtain ⟨r, hr, t, rfl, hl, ht⟩ := Q35 (body := fun t_ : (List Int) × Int => Q40.l0b f t_.1 t_.2) (fun s => s.1.length = f.length ∧ 0 ≤ s.2 ∧ s.2 ≤ (f.length : Int) ∧ ∀ m, 0 ≤ m → m < s.2 → gt s.1 m = -1)
  (fun r => ∃ t, r = .inl t ∧ t.length = f.length ∧ ∀ m, 0 ≤ m → m < (f.length : Int) → gt t m = -1) (fun s => ((f.length : Int) - s.2).toNat) (fun ⟨t, i⟩ ⟨a0, a1, a2, a3⟩ => by
   dsimp only at a0 a1 a2 a3 ⊢
   unfold Q40.l0b
   have hlen : ((List.replicate (f.length : Int).toNat (0 : Int)).length : Int) = f.length := by simp
   rw [hlen]
   by_cases hi : i < (f.length : Int)
   ·right
    rw [if_pos hi, if_pos ⟨a1, hi⟩, wrap64 (x := i + 1) (by omega) (by omega)]
    refine ⟨_, rfl, ⟨by dsimp only; rw [Q87, a0], by dsimp only; omega, by dsimp only; omega, fun m m0 m1 => ?_⟩, by dsimp only; omega⟩
    dsimp only at m1 ⊢
    rw [Q74 a1 (by omega) m0]
    split
    ·rfl
    ·exact a3 m m0 (by omega)
   ·left
    rw [if_neg hi]
    exact ⟨_, rfl, t, rfl, a0, fun m m0 m1 => a3 m m0 (by omega)⟩) (List.replicate (f.length : Int).toNat 0, 0) ⟨by simp, Int.le_refl 0, by dsimp only; omega, fun m m0 m1 => by dsimp only at m1; omega⟩
 have hr' : Q40.l0 f (List.replicate (f.length : Int).toNat 0) 0 = some (.inl t) := hr
 obtain ⟨to, odd, dep, he, w⟩ := walk_run hf s [] 0 t (List.replicate (f.length : Int).toNat false) (List.replicate (f.length : Int).toNat 0) hl (by simp) (by simp) (fun p hp => by cases hp) (by decide) (by omega) (by simp; omega)
 refine ⟨to, odd, dep, ?_, w.l1, w.l2, w.l3, fun h => w.bd (fun m a b c => h m a (by omega) c) fun m a b => ht m a (by omega)⟩
 unfold Q40.f
 rw [if_pos (by omega), if_pos (by omega), hr', Q12, wrap64 (by omega) (by omega)]
 unfold Q25.f
 rw [he.recF]
 rfl
theorem fix_run (K A B At : Int) (a : Bs) : Q76.f K A B a At = some (decide (K = 10 ∨ K = 11)) := by
 unfold Q76.f
 by_cases h : K = 10 <;> simp [h, Q12]
structure Bound (f : List Q9) (to : List Int) : Prop where
 n0 : 1 ≤ f.length
 n1 : f.length ≤ 60
 bi : Q103.f f = some to
 len : to.length = f.length
 bd : Bd f to [] 0 ((f.length : Int) - 1)
theorem check_run (f : List Q9) (hs : ∀ n ∈ f, (n.Name.length : Int) ≤ 9223372036854775807) : ∃ e i, Q50.f f = some (e, i) ∧ (e = 0 → ∃ to, Bound f to) := by
 obtain ⟨b, hb, hr⟩ := Q353 f hs
 unfold Q50.f
 rw [hb, Option.bind_some]
 cases b with
 | false => exact ⟨1, 0, by simp, by simp⟩
 | true =>
 obtain ⟨n0, n1, sb⟩ := hr rfl
 obtain ⟨to, odd, dep, hw, l1, l2, l3, hbd⟩ := Q350 n0 n1 sb
 simp only [if_true, hw, Option.bind_some]
 have hl0 : ((List.replicate (f.length : Int).toNat (0 : Int)).length : Int) = f.length := by simp
 have hlf : ((List.replicate (f.length : Int).toNat false).length : Int) = f.length := by simp
 obtain ⟨r, hr, hq⟩ := Q35 (body := fun t_ : (List (Bs × Bool)) × Int => Q50.l0b f ([], to, odd, dep, 0) t_.1 t_.2) (fun s => 0 ≤ s.2 ∧ s.2 ≤ (f.length : Int) ∧ ∀ m, 0 ≤ m → m < s.2 → (gt f m).Kind = 4 → 0 ≤ gt to m ∧ gt odd m = false)
  (fun r => (∃ x, r = .inl x ∧ ∀ m, 0 ≤ m → m < (f.length : Int) → (gt f m).Kind = 4 → 0 ≤ gt to m ∧ gt odd m = false) ∨ ∃ e i, r = .inr (e, i) ∧ e ≠ 0) (fun s => ((f.length : Int) - s.2).toNat) (fun ⟨x, i⟩ ⟨a1, a2, a3⟩ => by
   dsimp only at a1 a2 a3 ⊢
   unfold Q50.l0b
   rw [hl0, hlf]
   by_cases hi : i < (f.length : Int)
   ·rw [if_pos hi, if_pos ⟨a1, hi⟩]
    simp only [fix_run, Option.bind_some, if_pos (And.intro a1 hi)]
    by_cases k4 : (gt f i).Kind = 4
    ·have k10 : ¬ ((gt f i).Kind = 10 ∨ (gt f i).Kind = 11) := by omega
     simp only [if_pos k4, Q12, decide_eq_false k10, Bool.false_eq_true, if_false]
     by_cases t0 : gt to i < 0
     ·left; simp only [decide_eq_true t0, if_true, jn_up]; exact ⟨_, rfl, .inr ⟨11, i, rfl, by decide⟩⟩
     simp only [decide_eq_false t0, Bool.false_eq_true, if_false]
     cases ho : gt odd i with
     | true => left; simp only [if_true, jn_up]; exact ⟨_, rfl, .inr ⟨12, i, rfl, by decide⟩⟩
     | false =>
      right
      simp only [Bool.false_eq_true, if_false, Q12]
      rw [wrap64 (x := i + 1) (by omega) (by omega)]
      refine ⟨_, rfl, ⟨by dsimp only; omega, by dsimp only; omega, fun m m0 m1 mk => ?_⟩, by dsimp only; omega⟩
      dsimp only at m1
      by_cases hm : m = i
      ·rw [hm]; exact ⟨by omega, ho⟩
      ·exact a3 m m0 (by omega) mk
    ·simp only [if_neg k4, Q12, Bool.false_eq_true, if_false]
     have nxt : ∀ x' : List (Bs × Bool), ∃ s' : (List (Bs × Bool)) × Int, (nx (x', IntKind.i64.wrap (i + 1)) : Option (((List (Bs × Bool)) × Int) ⊕ (((List (Bs × Bool))) ⊕ (Int × Int)))) = some (.inl s') ∧ (0 ≤ s'.2 ∧ s'.2 ≤ (f.length : Int) ∧ ∀ m, 0 ≤ m → m < s'.2 → (gt f m).Kind = 4 → 0 ≤ gt to m ∧ gt odd m = false) ∧ ((f.length : Int) - s'.2).toNat < ((f.length : Int) - i).toNat := fun x' => by
      rw [wrap64 (x := i + 1) (by omega) (by omega)]
      refine ⟨_, rfl, ⟨by dsimp only; omega, by dsimp only; omega, fun m m0 m1 mk => ?_⟩, by dsimp only; omega⟩
      dsimp only at m1
      by_cases hm : m = i
      ·rw [hm] at mk; exact absurd mk k4
      ·exact a3 m m0 (by omega) mk
     by_cases k10 : (gt f i).Kind = 10 ∨ (gt f i).Kind = 11
     ·simp only [decide_eq_true k10, if_true, Q12]
      cases hse : (mget x (gt f i).Name).getD false with
      | true => left; simp only [if_true, jn_up]; exact ⟨_, rfl, .inr ⟨9, i, rfl, by decide⟩⟩
      | false =>
       simp only [Bool.false_eq_true, if_false]
       by_cases h4 : 4 < gt dep i
       ·left; simp only [decide_eq_true h4, if_true, jn_up]; exact ⟨_, rfl, .inr ⟨13, i, rfl, by decide⟩⟩
       ·right
        simp only [decide_eq_false h4, Bool.false_eq_true, if_false, Q12]
        exact nxt _
     ·right
      simp only [decide_eq_false k10, Bool.false_eq_true, if_false, Q12]
      exact nxt _
   ·left
    rw [if_neg hi]
    exact ⟨_, rfl, .inl ⟨x, rfl, fun m m0 m1 => a3 m m0 (by omega)⟩⟩) ([], 0) ⟨by decide, by dsimp only; omega, fun m m0 m1 => by dsimp only at m1; omega⟩
 have hr' : Q50.l0 f ([], to, odd, dep, 0) [] 0 = some r := hr
 rw [hr']
 rcases hq with ⟨x, rfl, hg⟩ | ⟨e, i, rfl, he⟩
 ·refine ⟨0, 0, rfl, fun _ => ⟨to, n0, n1, ?_, l1, hbd hg⟩⟩
  unfold Q103.f
  rw [hb, Option.bind_some, if_pos rfl, hw]
  rfl
 ·exact ⟨e, i, rfl, fun h => absurd h he⟩
end Go.Bw
namespace Go.Bw
open Go Go.RowKit Go.Proofs
variable {R : Res} {Fr : List HProp}
noncomputable def Q85.f  : Option Bool :=
 (Q26.f ([115, 116, 97, 116, 101, 115, 32, 52, 10, 101, 100, 103, 101, 32, 48, 32, 97, 32, 49, 10, 101, 100, 103, 101, 32, 48, 32, 97, 32, 50, 10, 101, 100, 103, 101, 32, 49, 32, 97, 32, 51, 10, 101, 100, 103, 101, 32, 50, 32, 97, 32, 51, 10, 109, 97, 114, 107, 32, 112, 32, 51, 10] : Bs)).bind fun q =>
 (Q15.f q.2.2.2.2 q.2.1 q.2.2.1 q.2.2.2.1).bind fun p =>
 jn (
 if q.1.isNone = true then
 some (.inl (decide ((p.2.2.2.1.length : Int) = 4)))
 else
 some (.inl false)) (fun (u : Bool) =>
 jn (
 if u = true then
 if (0 : Int) ≤ 2 ∧ 2 < (p.2.2.2.1.length : Int) then
 some (.inl (decide (gt p.2.2.2.1 2 = 1)))
 else none
 else
 some (.inl false)) (fun (D : Bool) =>
 jn (
 if D = true then
 if (0 : Int) ≤ 3 ∧ 3 < (p.2.2.2.1.length : Int) then
 some (.inl (decide (gt p.2.2.2.1 3 = 2)))
 else none
 else
 some (.inl false)) (fun (G : Bool) =>
 jn (
 if G = true then
 some (.inl (decide (p.2.2.2.2 = 3)))
 else
 some (.inl false)) (fun (I : Bool) =>
 jn (
 if I = true then
 some (.inl (decide ((p.2.1.length : Int) = 2)))
 else
 some (.inl false)) (fun (J : Bool) =>
 some J)))))
theorem Q85.callee : Callee Tryz.prog 12 := ⟨_, Tryz.func12, by kernel_rfl, by kernel_rfl⟩
theorem Q85.spec (hg0 : RdS (Fl.int .u8).rep R.heap (some ⟨0, 0, none⟩) Tryz.gtab0) {r : Bool} (j : Q85.f  = some r) :
 Spec Tryz.prog 12 [] R (Fr) (fun v l' => v = .bool r ∧ Fr = l') := by
 refine Spec.of Tryz.func12 rfl rfl ?_; unfold Q85.f at j; have j := brun j; refine sR 1 rfl (nT (At.seq (At.region ?_))); obtain ⟨u, d2, j⟩ := bbind j; refine At.call rfl Q26.callee rfl rfl rfl (Q26.spec d2) ?_; rintro _ _ ⟨U, g4, d3, d4, g5, d5, d6, g6, d7, d8, rfl, rfl, rfl, rfl, rfl⟩; refine At.run 3 rfl ?_; refine At.alloc rfl rfl rfl (fun d9 => ?_); refine At.store rfl rfl rfl rfl .z rfl rfl rfl (.c (.c (.c (.c .n)))) ?_; refine At.run 1 rfl (nT (At.seq (At.region (At.y (Y.load rfl rfl .z rfl rfl rfl) rfl rfl rfl ?_)))); refine At.freeze (.s .z) fun g7 e0 e1 e2 e3 e4 => ?_; refine At.freeze (.s .z) fun g8 e5 e6 e7 b8 e8 => ?_; refine At.freezeGrow (.s .z) fun g9 e9 f0 f1 a6 f2 => ?_; obtain ⟨p, f3, j⟩ := bbind j; refine At.call rfl Q15.callee rfl rfl rfl (Q15.spec (RdS.mono (b8.trans a6) e0) e1 e2 (RdS.mono a6 e5) e6 e7 e9 f0 f1 (RdS.mono ((e3.trans b8).trans a6) hg0) f3) ?_; rintro _ _ ⟨h0, D, G, h1, I, J, h2, L, O, h3, a7, a8, rfl, rfl, rfl, rfl, rfl, rfl⟩; refine At.run 3 rfl ?_; refine At.alloc rfl rfl rfl (fun V => ?_); refine At.store rfl rfl rfl rfl .z rfl rfl rfl (.c (.c (.c (.c .n)))) ?_; refine At.run 1 rfl (nT (sR 1 rfl ?_)); refine At.y (Y.eqOptI (.s (.s (.s (.s (.s (.s .z)))))) rfl rfl rfl) rfl rfl rfl ?_; refine At.run 1 rfl ?_; obtain ⟨f4, f5, h4, j⟩ := bjoin j; let T1 : HProp := pc V [i6 p.2.2.2.2, .slice L p.2.2.1.length O, .slice I p.2.1.length J, .slice D p.1.length G] 26; let T2 : HProp := row (Fl.int .i64) 3 a7 p.2.2.2.1.length a8 p.2.2.2.1; let T3 : HProp := pc d9 [i6 u.2.2.2.2, .slice d3 u.2.1.length d4, .slice d5 u.2.2.1.length d6, .slice d7 u.2.2.2.1.length d8] 26; refine At.joinO 4 (X := Bool) (fun Z => [(3, bp V), (4, .slice a7 p.2.2.2.1.length a8), (20, .bool Z)]) (fun Z => T1 :: row Fl.bs 9 L p.2.2.1.length O p.2.2.1 :: row Q1.fl 35 I p.2.1.length J p.2.1 :: grow Q2.ow 37 D p.1.length G p.1 :: T2 :: T3 :: optb (Ow.fl Q5.fl) 58 U u.1 :: Fr) (fun Z => f4 (.inl Z) = some r) ?_ (fun b9 => ?_)
 ·rintro Z j; have j := (f5 _).symm.trans j
  ·refine At.run 1 rfl ?_; obtain ⟨f6, f7, h5, j⟩ := bjoin j; refine At.joinO 5 (X := Bool) (fun a0 => [(3, bp V), (4, .slice a7 p.2.2.2.1.length a8), (26, .bool a0)]) (fun a0 => T1 :: row Fl.bs 9 L p.2.2.1.length O p.2.2.1 :: row Q1.fl 35 I p.2.1.length J p.2.1 :: grow Q2.ow 37 D p.1.length G p.1 :: T2 :: T3 :: optb (Ow.fl Q5.fl) 58 U u.1 :: Fr) (fun a0 => f6 (.inl a0) = some r) ?_ (fun c8 => ?_)
   ·rintro a0 j; have j := (f7 _).symm.trans j
    ·refine At.run 1 rfl ?_; obtain ⟨f8, f9, h6, j⟩ := bjoin j; refine At.joinO 5 (X := Bool) (fun a1 => [(3, bp V), (32, .bool a1)]) (fun a1 => T1 :: row Fl.bs 9 L p.2.2.1.length O p.2.2.1 :: row Q1.fl 35 I p.2.1.length J p.2.1 :: grow Q2.ow 37 D p.1.length G p.1 :: T2 :: T3 :: optb (Ow.fl Q5.fl) 58 U u.1 :: Fr) (fun a1 => f8 (.inl a1) = some r) ?_ (fun c9 => ?_)
     ·rintro a1 j; have j := (f9 _).symm.trans j
      ·refine At.run 1 rfl ?_; obtain ⟨g0, g1, h7, j⟩ := bjoin j; refine At.joinO 4 (X := Bool) (fun a2 => [(3, bp V), (37, .bool a2)]) (fun a2 => T1 :: row Fl.bs 9 L p.2.2.1.length O p.2.2.1 :: row Q1.fl 35 I p.2.1.length J p.2.1 :: grow Q2.ow 37 D p.1.length G p.1 :: T2 :: T3 :: optb (Ow.fl Q5.fl) 58 U u.1 :: Fr) (fun a2 => g0 (.inl a2) = some r) ?_ (fun d0 => ?_)
       ·rintro a2 j; have j := (g1 _).symm.trans j
        ·refine At.run 1 rfl ?_; obtain ⟨g2, g3, h8, j⟩ := bjoin j; refine At.joinO 5 (X := Bool) (fun a3 => [(43, .bool a3)]) (fun a3 => T1 :: row Fl.bs 9 L p.2.2.1.length O p.2.2.1 :: row Q1.fl 35 I p.2.1.length J p.2.1 :: grow Q2.ow 37 D p.1.length G p.1 :: T2 :: T3 :: optb (Ow.fl Q5.fl) 58 U u.1 :: Fr) (fun a3 => g2 (.inl a3) = some r) ?_ (fun d1 => ?_)
         ·rintro a3 j; have j := (g3 _).symm.trans j
          ·refine At.run 1 rfl (nT (At.ret ?_)); refine At.thaw f2 ?_; refine At.thaw e8 ?_; refine At.thaw e4 ?_; refine At.drop .z (At.drop .z (At.drop .z (At.drop .z (At.drop .z (At.drop .z (At.drop .z (At.drop .z ?_))))))); refine At.drop .z (At.drop .z ?_); cases bret j; exact At.res (.inl rfl) rfl rfl ⟨rfl, rfl⟩
         ··rcases bite j with ⟨a9, j⟩ | ⟨a9, j⟩
           ··refine At.know (t := 38) rfl a9 ?_
             refine At.run 1 rfl (At.y (Y.load rfl rfl .z rfl rfl rfl) rfl rfl rfl (At.run 3 rfl ?_)); exact At.of (d1 (decide ((p.2.1.length : Int) = 2)) j) ⟨rfl, trivial⟩
           ··refine At.know (t := 38) rfl (bn a9) ?_
             refine At.run 5 rfl ?_; exact At.of (d1 false j) ⟨rfl, trivial⟩
       ··rcases bite j with ⟨b4, j⟩ | ⟨b4, j⟩
         ··refine At.know (t := 33) rfl b4 ?_
           refine At.run 1 rfl (At.y (Y.load rfl rfl .z rfl rfl rfl) rfl rfl rfl (At.run 2 rfl ?_)); exact At.of (d0 (decide (p.2.2.2.2 = 3)) j) ⟨rfl, rfl, trivial⟩
         ··refine At.know (t := 33) rfl (bn b4) ?_
           refine At.run 4 rfl ?_; exact At.of (d0 false j) ⟨rfl, rfl, trivial⟩
     ··rcases bite j with ⟨b5, j⟩ | ⟨b5, j⟩
       ··refine At.know (t := 27) rfl b5 ?_
         refine At.run 1 rfl ?_; obtain ⟨a4, j⟩ := bnone j; refine At.y (Y.ix (.s (.s (.s (.s .z)))) rfl rfl rfl rfl rfl rfl a4.1 a4.2) rfl rfl rfl ?_; refine At.y (Y.ld (.s (.s (.s (.s .z)))) (q := 0) rfl rfl a4.1 a4.2 rfl rfl rfl) rfl rfl rfl ?_; refine At.run 2 rfl ?_; exact At.of (c9 (decide (gt p.2.2.2.1 3 = 2)) j) ⟨rfl, rfl, trivial⟩
       ··refine At.know (t := 27) rfl (bn b5) ?_
         refine At.run 5 rfl ?_; exact At.of (c9 false j) ⟨rfl, rfl, trivial⟩
   ··rcases bite j with ⟨b6, j⟩ | ⟨b6, j⟩
     ··refine At.know (t := 21) rfl b6 ?_
       refine At.run 1 rfl ?_; obtain ⟨a5, j⟩ := bnone j; refine At.y (Y.ix (.s (.s (.s (.s .z)))) rfl rfl rfl rfl rfl rfl a5.1 a5.2) rfl rfl rfl ?_; refine At.y (Y.ld (.s (.s (.s (.s .z)))) (q := 0) rfl rfl a5.1 a5.2 rfl rfl rfl) rfl rfl rfl ?_; refine At.run 2 rfl ?_; exact At.of (c8 (decide (gt p.2.2.2.1 2 = 1)) j) ⟨rfl, rfl, rfl, trivial⟩
     ··refine At.know (t := 21) rfl (bn b6) ?_
       refine At.run 5 rfl ?_; exact At.of (c8 false j) ⟨rfl, rfl, rfl, trivial⟩
 ··rcases bite j with ⟨b7, j⟩ | ⟨b7, j⟩
   ··refine At.know (t := 16) rfl b7 ?_
     refine At.run 4 rfl ?_; exact At.of (b9 (decide ((p.2.2.2.1.length : Int) = 4)) j) ⟨rfl, rfl, rfl, trivial⟩
   ··refine At.know (t := 16) rfl (bn b7) ?_
     refine At.run 4 rfl ?_; exact At.of (b9 false j) ⟨rfl, rfl, rfl, trivial⟩

end Go.Bw
namespace Go.Bw
open Go Go.RowKit Go.Proofs
variable {R : Res} {Fr : List HProp} {b0 b0_1 b0_2 b0_0 b0_0_1 b0_0_2 n0_1 c0_1 n0_2 c0_2 n0_7 c0_7 n1 c1 : Nat} {A0_1 A0_2 A0_7 A1 : Option Addr}
noncomputable def Q97.f (p q u D G I J L : Int) : Option (Int × Int × Int × Int) :=
 some (band .u64 p G, band .u64 q I, band .u64 u J, band .u64 D L)
theorem Q97.callee : Callee Tryz.prog 117 := ⟨_, Tryz.func117, by kernel_rfl, by kernel_rfl⟩
theorem Q97.spec {p u D G I J L O : Int} {r : Int × Int × Int × Int} (j : Q97.f p u D G I J L O = some r) :
 Spec Tryz.prog 117 [.agg #[.int .u64 p, .int .u64 u, .int .u64 D, .int .u64 G], .agg #[.int .u64 I, .int .u64 J, .int .u64 L, .int .u64 O]] R (Fr) (fun v l' => v = .agg #[.int .u64 r.1, .int .u64 r.2.1, .int .u64 r.2.2.1, .int .u64 r.2.2.2] ∧ Fr = l') := by
 refine Spec.of Tryz.func117 rfl rfl ?_; unfold Q97.f at j; have j := brun j; refine At.seq (At.region ?_); refine At.box rfl rfl (cs := [.int .u64 p, .int .u64 u, .int .u64 D, .int .u64 G]) rfl rfl (fun U => ?_); refine At.box rfl rfl (cs := [.int .u64 I, .int .u64 J, .int .u64 L, .int .u64 O]) rfl rfl (fun V => ?_); refine At.alloc rfl rfl rfl (fun X => ?_); refine nT (At.seq (sR 1 rfl (nT ?_))); refine At.block ?_; refine At.rounds 5 ?_; refine At.round ?_; refine sR 1 rfl (nT (At.seq ?_)); refine At.condT rfl rfl ?_; refine At.skip (At.thn (At.seq ?_)); refine At.block ?_; refine sR 2 rfl (nT ?_); refine At.still 8 (by kernel_rfl) ?_; refine At.Still.run 1 rfl ?_; refine At.Still.y (Y.ixArrK rfl rfl rfl rfl rfl (show (0 : Int) ≤ 0 ∧ (0 : Int) < 4 by decide).1 (show (0 : Int) ≤ 0 ∧ (0 : Int) < 4 by decide).2 (q := 0) (off := 0) rfl rfl) rfl rfl rfl ?_; refine At.Still.y (Y.load rfl rfl (.s (.s .z)) rfl rfl rfl) rfl rfl rfl ?_; refine At.Still.run 1 rfl ?_; refine At.Still.y (Y.ixArrK rfl rfl rfl rfl rfl (show (0 : Int) ≤ 0 ∧ (0 : Int) < 4 by decide).1 (show (0 : Int) ≤ 0 ∧ (0 : Int) < 4 by decide).2 (q := 0) (off := 0) rfl rfl) rfl rfl rfl ?_; refine At.Still.y (Y.load rfl rfl (.s .z) rfl rfl rfl) rfl rfl rfl ?_; refine At.Still.run 1 rfl ?_; refine At.Still.y (Y.ixArrK rfl rfl rfl rfl rfl (show (0 : Int) ≤ 0 ∧ (0 : Int) < 4 by decide).1 (show (0 : Int) ≤ 0 ∧ (0 : Int) < 4 by decide).2 (q := 0) (off := 0) rfl rfl) rfl rfl rfl ?_; refine At.Still.nil ?_; refine At.store rfl rfl rfl rfl (.s (.s .z)) rfl rfl rfl (.c .n) ?_; refine At.nil ?_; refine At.ibn ?_; refine At.thn (At.region (At.run 2 rfl (nT ?_))); refine At.round ?_; refine sR 1 rfl (nT (At.seq ?_)); refine At.condT rfl rfl ?_; refine At.skip (At.thn (At.seq ?_)); refine At.block ?_; refine sR 2 rfl (nT ?_); refine At.still 8 (by kernel_rfl) ?_; refine At.Still.run 1 rfl ?_; refine At.Still.y (Y.ixArrK rfl rfl rfl rfl rfl (show (0 : Int) ≤ 1 ∧ (1 : Int) < 4 by decide).1 (show (0 : Int) ≤ 1 ∧ (1 : Int) < 4 by decide).2 (q := 1) (off := 1) rfl rfl) rfl rfl rfl ?_; refine At.Still.y (Y.load rfl rfl .z rfl rfl rfl) rfl rfl rfl ?_; refine At.Still.run 1 rfl ?_; refine At.Still.y (Y.ixArrK rfl rfl rfl rfl rfl (show (0 : Int) ≤ 1 ∧ (1 : Int) < 4 by decide).1 (show (0 : Int) ≤ 1 ∧ (1 : Int) < 4 by decide).2 (q := 1) (off := 1) rfl rfl) rfl rfl rfl ?_; refine At.Still.y (Y.load rfl rfl (.s (.s .z)) rfl rfl rfl) rfl rfl rfl ?_; refine At.Still.run 1 rfl ?_; refine At.Still.y (Y.ixArrK rfl rfl rfl rfl rfl (show (0 : Int) ≤ 1 ∧ (1 : Int) < 4 by decide).1 (show (0 : Int) ≤ 1 ∧ (1 : Int) < 4 by decide).2 (q := 1) (off := 1) rfl rfl) rfl rfl rfl ?_; refine At.Still.nil ?_; refine At.store rfl rfl rfl rfl .z rfl rfl rfl (.s (.c .n)) ?_; refine At.nil ?_; refine At.ibn ?_; refine At.thn (At.region (At.run 2 rfl (nT ?_))); refine At.round ?_; refine sR 1 rfl (nT (At.seq ?_)); refine At.condT rfl rfl ?_; refine At.skip (At.thn (At.seq ?_)); refine At.block ?_; refine sR 2 rfl (nT ?_); refine At.still 8 (by kernel_rfl) ?_; refine At.Still.run 1 rfl ?_; refine At.Still.y (Y.ixArrK rfl rfl rfl rfl rfl (show (0 : Int) ≤ 2 ∧ (2 : Int) < 4 by decide).1 (show (0 : Int) ≤ 2 ∧ (2 : Int) < 4 by decide).2 (q := 2) (off := 2) rfl rfl) rfl rfl rfl ?_; refine At.Still.y (Y.load rfl rfl .z rfl rfl rfl) rfl rfl rfl ?_; refine At.Still.run 1 rfl ?_; refine At.Still.y (Y.ixArrK rfl rfl rfl rfl rfl (show (0 : Int) ≤ 2 ∧ (2 : Int) < 4 by decide).1 (show (0 : Int) ≤ 2 ∧ (2 : Int) < 4 by decide).2 (q := 2) (off := 2) rfl rfl) rfl rfl rfl ?_; refine At.Still.y (Y.load rfl rfl (.s (.s .z)) rfl rfl rfl) rfl rfl rfl ?_; refine At.Still.run 1 rfl ?_; refine At.Still.y (Y.ixArrK rfl rfl rfl rfl rfl (show (0 : Int) ≤ 2 ∧ (2 : Int) < 4 by decide).1 (show (0 : Int) ≤ 2 ∧ (2 : Int) < 4 by decide).2 (q := 2) (off := 2) rfl rfl) rfl rfl rfl ?_; refine At.Still.nil ?_; refine At.store rfl rfl rfl rfl .z rfl rfl rfl (.s (.s (.c .n))) ?_; refine At.nil ?_; refine At.ibn ?_; refine At.thn (At.region (At.run 2 rfl (nT ?_))); refine At.round ?_; refine sR 1 rfl (nT (At.seq ?_)); refine At.condT rfl rfl ?_; refine At.skip (At.thn (At.seq ?_)); refine At.block ?_; refine sR 2 rfl (nT ?_); refine At.still 8 (by kernel_rfl) ?_; refine At.Still.run 1 rfl ?_; refine At.Still.y (Y.ixArrK rfl rfl rfl rfl rfl (show (0 : Int) ≤ 3 ∧ (3 : Int) < 4 by decide).1 (show (0 : Int) ≤ 3 ∧ (3 : Int) < 4 by decide).2 (q := 3) (off := 3) rfl rfl) rfl rfl rfl ?_; refine At.Still.y (Y.load rfl rfl .z rfl rfl rfl) rfl rfl rfl ?_; refine At.Still.run 1 rfl ?_; refine At.Still.y (Y.ixArrK rfl rfl rfl rfl rfl (show (0 : Int) ≤ 3 ∧ (3 : Int) < 4 by decide).1 (show (0 : Int) ≤ 3 ∧ (3 : Int) < 4 by decide).2 (q := 3) (off := 3) rfl rfl) rfl rfl rfl ?_; refine At.Still.y (Y.load rfl rfl (.s (.s .z)) rfl rfl rfl) rfl rfl rfl ?_; refine At.Still.run 1 rfl ?_; refine At.Still.y (Y.ixArrK rfl rfl rfl rfl rfl (show (0 : Int) ≤ 3 ∧ (3 : Int) < 4 by decide).1 (show (0 : Int) ≤ 3 ∧ (3 : Int) < 4 by decide).2 (q := 3) (off := 3) rfl rfl) rfl rfl rfl ?_; refine At.Still.nil ?_; refine At.store rfl rfl rfl rfl .z rfl rfl rfl (.s (.s (.s (.c .n)))) ?_; refine At.nil ?_; refine At.ibn ?_; refine At.thn (At.region (At.run 2 rfl (nT ?_))); refine At.round ?_; refine sR 1 rfl (nT (At.seq ?_)); refine At.condF rfl rfl ?_; refine At.exit ?_; refine At.the ?_; refine At.the ?_; refine At.ibx ?_; refine At.thn (At.seq (At.region (At.y (Y.load rfl rfl .z rfl rfl rfl) rfl rfl rfl ?_))); refine At.store rfl rfl rfl rfl (.s .z) rfl rfl rfl (.c (.c (.c (.c .n)))) ?_; refine nT (At.ret ?_); refine At.resM (.inl rfl) rfl (RV.cell rfl rfl .z rfl rfl rfl RV.nil) ?_; refine At.drop .z (At.drop .z (At.drop .z ?_)); cases bret j; exact fun a w e hs => ⟨_, ⟨rfl, rfl⟩, hs⟩

noncomputable def Q126.f (p q u D G I J L : Int) : Option (Int × Int × Int × Int) :=
 some (bor .u64 p G, bor .u64 q I, bor .u64 u J, bor .u64 D L)
theorem Q126.callee : Callee Tryz.prog 118 := ⟨_, Tryz.func118, by kernel_rfl, by kernel_rfl⟩
theorem Q126.spec {p u D G I J L O : Int} {r : Int × Int × Int × Int} (j : Q126.f p u D G I J L O = some r) :
 Spec Tryz.prog 118 [.agg #[.int .u64 p, .int .u64 u, .int .u64 D, .int .u64 G], .agg #[.int .u64 I, .int .u64 J, .int .u64 L, .int .u64 O]] R (Fr) (fun v l' => v = .agg #[.int .u64 r.1, .int .u64 r.2.1, .int .u64 r.2.2.1, .int .u64 r.2.2.2] ∧ Fr = l') := by
 refine Spec.of Tryz.func118 rfl rfl ?_; unfold Q126.f at j; have j := brun j; refine At.seq (At.region ?_); refine At.box rfl rfl (cs := [.int .u64 p, .int .u64 u, .int .u64 D, .int .u64 G]) rfl rfl (fun U => ?_); refine At.box rfl rfl (cs := [.int .u64 I, .int .u64 J, .int .u64 L, .int .u64 O]) rfl rfl (fun V => ?_); refine At.alloc rfl rfl rfl (fun X => ?_); refine nT (At.seq (sR 1 rfl (nT ?_))); refine At.block ?_; refine At.rounds 5 ?_; refine At.round ?_; refine sR 1 rfl (nT (At.seq ?_)); refine At.condT rfl rfl ?_; refine At.skip (At.thn (At.seq ?_)); refine At.block ?_; refine sR 2 rfl (nT ?_); refine At.still 8 (by kernel_rfl) ?_; refine At.Still.run 1 rfl ?_; refine At.Still.y (Y.ixArrK rfl rfl rfl rfl rfl (show (0 : Int) ≤ 0 ∧ (0 : Int) < 4 by decide).1 (show (0 : Int) ≤ 0 ∧ (0 : Int) < 4 by decide).2 (q := 0) (off := 0) rfl rfl) rfl rfl rfl ?_; refine At.Still.y (Y.load rfl rfl (.s (.s .z)) rfl rfl rfl) rfl rfl rfl ?_; refine At.Still.run 1 rfl ?_; refine At.Still.y (Y.ixArrK rfl rfl rfl rfl rfl (show (0 : Int) ≤ 0 ∧ (0 : Int) < 4 by decide).1 (show (0 : Int) ≤ 0 ∧ (0 : Int) < 4 by decide).2 (q := 0) (off := 0) rfl rfl) rfl rfl rfl ?_; refine At.Still.y (Y.load rfl rfl (.s .z) rfl rfl rfl) rfl rfl rfl ?_; refine At.Still.run 1 rfl ?_; refine At.Still.y (Y.ixArrK rfl rfl rfl rfl rfl (show (0 : Int) ≤ 0 ∧ (0 : Int) < 4 by decide).1 (show (0 : Int) ≤ 0 ∧ (0 : Int) < 4 by decide).2 (q := 0) (off := 0) rfl rfl) rfl rfl rfl ?_; refine At.Still.nil ?_; refine At.store rfl rfl rfl rfl (.s (.s .z)) rfl rfl rfl (.c .n) ?_; refine At.nil ?_; refine At.ibn ?_; refine At.thn (At.region (At.run 2 rfl (nT ?_))); refine At.round ?_; refine sR 1 rfl (nT (At.seq ?_)); refine At.condT rfl rfl ?_; refine At.skip (At.thn (At.seq ?_)); refine At.block ?_; refine sR 2 rfl (nT ?_); refine At.still 8 (by kernel_rfl) ?_; refine At.Still.run 1 rfl ?_; refine At.Still.y (Y.ixArrK rfl rfl rfl rfl rfl (show (0 : Int) ≤ 1 ∧ (1 : Int) < 4 by decide).1 (show (0 : Int) ≤ 1 ∧ (1 : Int) < 4 by decide).2 (q := 1) (off := 1) rfl rfl) rfl rfl rfl ?_; refine At.Still.y (Y.load rfl rfl .z rfl rfl rfl) rfl rfl rfl ?_; refine At.Still.run 1 rfl ?_; refine At.Still.y (Y.ixArrK rfl rfl rfl rfl rfl (show (0 : Int) ≤ 1 ∧ (1 : Int) < 4 by decide).1 (show (0 : Int) ≤ 1 ∧ (1 : Int) < 4 by decide).2 (q := 1) (off := 1) rfl rfl) rfl rfl rfl ?_; refine At.Still.y (Y.load rfl rfl (.s (.s .z)) rfl rfl rfl) rfl rfl rfl ?_; refine At.Still.run 1 rfl ?_; refine At.Still.y (Y.ixArrK rfl rfl rfl rfl rfl (show (0 : Int) ≤ 1 ∧ (1 : Int) < 4 by decide).1 (show (0 : Int) ≤ 1 ∧ (1 : Int) < 4 by decide).2 (q := 1) (off := 1) rfl rfl) rfl rfl rfl ?_; refine At.Still.nil ?_; refine At.store rfl rfl rfl rfl .z rfl rfl rfl (.s (.c .n)) ?_; refine At.nil ?_; refine At.ibn ?_; refine At.thn (At.region (At.run 2 rfl (nT ?_))); refine At.round ?_; refine sR 1 rfl (nT (At.seq ?_)); refine At.condT rfl rfl ?_; refine At.skip (At.thn (At.seq ?_)); refine At.block ?_; refine sR 2 rfl (nT ?_); refine At.still 8 (by kernel_rfl) ?_; refine At.Still.run 1 rfl ?_; refine At.Still.y (Y.ixArrK rfl rfl rfl rfl rfl (show (0 : Int) ≤ 2 ∧ (2 : Int) < 4 by decide).1 (show (0 : Int) ≤ 2 ∧ (2 : Int) < 4 by decide).2 (q := 2) (off := 2) rfl rfl) rfl rfl rfl ?_; refine At.Still.y (Y.load rfl rfl .z rfl rfl rfl) rfl rfl rfl ?_; refine At.Still.run 1 rfl ?_; refine At.Still.y (Y.ixArrK rfl rfl rfl rfl rfl (show (0 : Int) ≤ 2 ∧ (2 : Int) < 4 by decide).1 (show (0 : Int) ≤ 2 ∧ (2 : Int) < 4 by decide).2 (q := 2) (off := 2) rfl rfl) rfl rfl rfl ?_; refine At.Still.y (Y.load rfl rfl (.s (.s .z)) rfl rfl rfl) rfl rfl rfl ?_; refine At.Still.run 1 rfl ?_; refine At.Still.y (Y.ixArrK rfl rfl rfl rfl rfl (show (0 : Int) ≤ 2 ∧ (2 : Int) < 4 by decide).1 (show (0 : Int) ≤ 2 ∧ (2 : Int) < 4 by decide).2 (q := 2) (off := 2) rfl rfl) rfl rfl rfl ?_; refine At.Still.nil ?_; refine At.store rfl rfl rfl rfl .z rfl rfl rfl (.s (.s (.c .n))) ?_; refine At.nil ?_; refine At.ibn ?_; refine At.thn (At.region (At.run 2 rfl (nT ?_))); refine At.round ?_; refine sR 1 rfl (nT (At.seq ?_)); refine At.condT rfl rfl ?_; refine At.skip (At.thn (At.seq ?_)); refine At.block ?_; refine sR 2 rfl (nT ?_); refine At.still 8 (by kernel_rfl) ?_; refine At.Still.run 1 rfl ?_; refine At.Still.y (Y.ixArrK rfl rfl rfl rfl rfl (show (0 : Int) ≤ 3 ∧ (3 : Int) < 4 by decide).1 (show (0 : Int) ≤ 3 ∧ (3 : Int) < 4 by decide).2 (q := 3) (off := 3) rfl rfl) rfl rfl rfl ?_; refine At.Still.y (Y.load rfl rfl .z rfl rfl rfl) rfl rfl rfl ?_; refine At.Still.run 1 rfl ?_; refine At.Still.y (Y.ixArrK rfl rfl rfl rfl rfl (show (0 : Int) ≤ 3 ∧ (3 : Int) < 4 by decide).1 (show (0 : Int) ≤ 3 ∧ (3 : Int) < 4 by decide).2 (q := 3) (off := 3) rfl rfl) rfl rfl rfl ?_; refine At.Still.y (Y.load rfl rfl (.s (.s .z)) rfl rfl rfl) rfl rfl rfl ?_; refine At.Still.run 1 rfl ?_; refine At.Still.y (Y.ixArrK rfl rfl rfl rfl rfl (show (0 : Int) ≤ 3 ∧ (3 : Int) < 4 by decide).1 (show (0 : Int) ≤ 3 ∧ (3 : Int) < 4 by decide).2 (q := 3) (off := 3) rfl rfl) rfl rfl rfl ?_; refine At.Still.nil ?_; refine At.store rfl rfl rfl rfl .z rfl rfl rfl (.s (.s (.s (.c .n)))) ?_; refine At.nil ?_; refine At.ibn ?_; refine At.thn (At.region (At.run 2 rfl (nT ?_))); refine At.round ?_; refine sR 1 rfl (nT (At.seq ?_)); refine At.condF rfl rfl ?_; refine At.exit ?_; refine At.the ?_; refine At.the ?_; refine At.ibx ?_; refine At.thn (At.seq (At.region (At.y (Y.load rfl rfl .z rfl rfl rfl) rfl rfl rfl ?_))); refine At.store rfl rfl rfl rfl (.s .z) rfl rfl rfl (.c (.c (.c (.c .n)))) ?_; refine nT (At.ret ?_); refine At.resM (.inl rfl) rfl (RV.cell rfl rfl .z rfl rfl rfl RV.nil) ?_; refine At.drop .z (At.drop .z (At.drop .z ?_)); cases bret j; exact fun a w e hs => ⟨_, ⟨rfl, rfl⟩, hs⟩

noncomputable def Q36.l0b (O : Int) (q : List (Q7 × Q0)) (U V X Z : Int) (a2 : Bs) (G I J L p : Int) : Option ((Int × Int × Int × Int × Int) ⊕ ((Int × Int × Int × Int) ⊕ (Int × Int × Int × Int))) :=
 if p < O then
 jn (
 (Q97.f (((mget q (⟨p, a2⟩ : Q7)).getD (⟨(0 : Int), (0 : Int), (0 : Int), (0 : Int)⟩ : Q0)).c0) (((mget q (⟨p, a2⟩ : Q7)).getD (⟨(0 : Int), (0 : Int), (0 : Int), (0 : Int)⟩ : Q0)).c1) (((mget q (⟨p, a2⟩ : Q7)).getD (⟨(0 : Int), (0 : Int), (0 : Int), (0 : Int)⟩ : Q0)).c2) (((mget q (⟨p, a2⟩ : Q7)).getD (⟨(0 : Int), (0 : Int), (0 : Int), (0 : Int)⟩ : Q0)).c3) U V X Z).bind fun u =>
 if (decide (u.1 = 0) && (decide (u.2.1 = 0) && (decide (u.2.2.1 = 0) && (decide (u.2.2.2 = 0) && true)))) = true then
 some (.inl (G, I, J, L))
 else
 (Q21.f G I J L p).bind fun D =>
 some (.inl (D.1, D.2.1, D.2.2.1, D.2.2.2))) (fun (s_ : Int × Int × Int × Int) =>
 nx (s_.1, s_.2.1, s_.2.2.1, s_.2.2.2, IntKind.i64.wrap (p + 1)))
 else
 dn (.inl (G, I, J, L))
noncomputable def Q36.l0 (p : Int) (q : List (Q7 × Q0)) (u D G I : Int) (a2 : Bs) (J L O U V : Int) : Option ((Int × Int × Int × Int) ⊕ (Int × Int × Int × Int)) := iter (fun t_ : Int × Int × Int × Int × Int => Q36.l0b p q u D G I a2 t_.1 t_.2.1 t_.2.2.1 t_.2.2.2.1 t_.2.2.2.2) (J, L, O, U, V)
noncomputable def Q36.f (p : Int) (J : List (Bs × Q0)) (q : List (Q7 × Q0)) (u D G I : Int) (a2 : Bs) : Option (Int × Int × Int × Int) :=
 jn (Q36.l0 p q u D G I a2 0 0 0 0 0) (fun (s_ : Int × Int × Int × Int) =>
 some (s_.1, s_.2.1, s_.2.2.1, s_.2.2.2))
theorem Q36.callee : Callee Tryz.prog 119 := ⟨_, Tryz.func119, by kernel_rfl, by kernel_rfl⟩
theorem Q36.spec {p q u D G : Int} {U : List (Bs × Q0)} {I : List (Q7 × Q0)} {a2 : Bs} {r : Int × Int × Int × Int} (j : Q36.f p U I q u D G a2 = some r) :
 Spec Tryz.prog 119 [bp b0, .agg #[.int .u64 q, .int .u64 u, .int .u64 D, .int .u64 G], .string ⟨(a2).toArray⟩] R (pc b0 [i6 p, .map (some b0_1), .map (some b0_2)] 91 :: mapo Fl.bs.ov Q0.fl.av b0_1 U :: mapo Q7.fl.av Q0.fl.av b0_2 I :: Fr) (fun v l' => v = .agg #[.int .u64 r.1, .int .u64 r.2.1, .int .u64 r.2.2.1, .int .u64 r.2.2.2] ∧ pc b0 [i6 p, .map (some b0_1), .map (some b0_2)] 91 :: mapo Fl.bs.ov Q0.fl.av b0_1 U :: mapo Q7.fl.av Q0.fl.av b0_2 I :: Fr = l') := by
 refine Spec.of Tryz.func119 rfl rfl ?_; unfold Q36.f at j; have j := brun j; refine At.seq (At.region ?_); refine At.box rfl rfl (cs := [.int .u64 q, .int .u64 u, .int .u64 D, .int .u64 G]) rfl rfl (fun a1 => ?_); refine At.alloc rfl rfl rfl (fun V => ?_); refine nT (At.seq (At.region ?_)); refine At.alloc rfl rfl rfl (fun J => ?_); refine nT (At.seq (sR 3 rfl (At.y (Y.load rfl rfl (.s (.s (.s .z))) rfl rfl rfl) rfl rfl rfl (At.run 1 rfl ?_)))); refine nT ?_; refine At.block ?_; obtain ⟨b7, b8, d9, j⟩ := bjoin j; obtain ⟨a3, a4, b9⟩ := bsome j; clear j; unfold Q36.l0 at a4; obtain ⟨a5, O⟩ := Q16.1 a4; clear a4; let T1 : HProp := pt V (.cells ([.int .u64 0, .int .u64 0, .int .u64 0, .int .u64 0] : List Value).toArray 43); let T2 : HProp := pc a1 [.int .u64 q, .int .u64 u, .int .u64 D, .int .u64 G] 43; let T3 : HProp := pc b0 [i6 p, .map (some b0_1), .map (some b0_2)] 91; let T4 : HProp := mapo Fl.bs.ov Q0.fl.av b0_1 U; let T5 : HProp := mapo Q7.fl.av Q0.fl.av b0_2 I; refine At.loopJ (X := Int × Int × Int × Int × Int) (Y := Int × Int × Int × Int) (e0 := 0) (fun s_ => [(0, bp b0), (2, .string ⟨(a2).toArray⟩), (4, bp a1), (6, bp V), (7, bp J), (12, i6 p), (13, i6 s_.2.2.2.2)]) (fun s_ => pc J [.int .u64 s_.1, .int .u64 s_.2.1, .int .u64 s_.2.2.1, .int .u64 s_.2.2.2.1] 43 :: T1 :: T2 :: T3 :: T4 :: T5 :: Fr) (fun m_ => fun s_ => iterN (fun t_ : Int × Int × Int × Int × Int => Q36.l0b p I q u D G a2 t_.1 t_.2.1 t_.2.2.1 t_.2.2.2.1 t_.2.2.2.2) m_ (s_.1, s_.2.1, s_.2.2.1, s_.2.2.2.1, s_.2.2.2.2) = some a3) a5 (0, 0, 0, 0, 0) O (fun s_ => [(6, bp V), (7, bp J)]) (fun s_ => pc J [.int .u64 s_.1, .int .u64 s_.2.1, .int .u64 s_.2.2.1, .int .u64 s_.2.2.2] 43 :: T1 :: T2 :: T3 :: T4 :: T5 :: Fr) (fun s_ => b7 (.inl (s_.1, s_.2.1, s_.2.2.1, s_.2.2.2)) = some r) (fun a w e hs => ⟨e.sub ⟨rfl, rfl, rfl, rfl, rfl, rfl, rfl, trivial⟩, (by exact hs)⟩) ?_ (fun c8 => ?_)
 ·rintro ⟨e1, e2, e3, e4⟩ j; have j := (b8 _).symm.trans j
  ·refine At.ibx ?_; refine At.thn (At.seq (At.region (At.y (Y.load rfl rfl .z rfl rfl rfl) rfl rfl rfl ?_))); refine At.store rfl rfl rfl rfl (.s .z) rfl rfl rfl (.c (.c (.c (.c .n)))) ?_; refine nT (At.ret ?_); refine At.resM (.inl rfl) rfl (RV.cell rfl rfl .z rfl rfl rfl RV.nil) ?_; refine At.drop .z (At.drop .z (At.drop .z ?_)); cases bret j; exact fun a w e hs => ⟨_, ⟨rfl, rfl⟩, hs⟩
 ·clear O a5; rintro a5 ⟨a6, a7, a8, a9, L⟩ O; obtain ⟨c9, f_, d0, hf_, j⟩ := bit O; clear O; have j : (Q36.l0b p I q u D G a2 a6 a7 a8 a9 L).bind _ = some a3 := j; unfold Q36.l0b at j
  ·refine sR 1 rfl (nT (At.seq ?_)); rcases bite j with ⟨b4, j⟩ | ⟨b4, j⟩
   ··refine At.condT rfl (decide_eq_true b4) ?_
     refine At.skip (At.thn (At.seq ?_)); obtain ⟨d1, d2, e5, j⟩ := bjoin j; refine At.join (X := Int × Int × Int × Int) (fun s_ => [(0, bp b0), (2, .string ⟨(a2).toArray⟩), (4, bp a1), (6, bp V), (7, bp J), (12, i6 p), (13, i6 L)]) (fun s_ => pc J [.int .u64 s_.1, .int .u64 s_.2.1, .int .u64 s_.2.2.1, .int .u64 s_.2.2.2] 43 :: T1 :: T2 :: T3 :: T4 :: T5 :: Fr) (fun s_ => d1 (.inl (s_.1, s_.2.1, s_.2.2.1, s_.2.2.2)) = some a3) ?_ (fun b6 => ?_)
     ·rintro ⟨d3, d4, d5, d6⟩ j; have j := (d2 _).symm.trans j
      ·refine At.region (At.run 2 rfl (At.nil ?_)); have j := bnx hf_ j; exact fun a w e hs => ⟨c9, (d3, d4, d5, d6, IntKind.i64.wrap (L + 1)), d0, j, e.sub ⟨rfl, rfl, rfl, rfl, rfl, rfl, rfl, trivial⟩, hs⟩
     ··refine At.block ?_
       refine sR 2 rfl (nT (At.seq ?_)); refine At.quiet (by kernel_rfl) ?_; refine At.Quiet.run 3 rfl ?_; refine At.Quiet.y (Y.load rfl rfl (.s (.s (.s .z))) rfl rfl rfl) rfl rfl rfl ?_; refine At.Quiet.run 2 rfl ?_; refine At.Quiet.y (Y.build (is := [0, 1]) (xo := [.tmp 20, .tmp 21]) (vs := [i6 L, .string ⟨(a2).toArray⟩]) (cs := [i6 L, .string ⟨(a2).toArray⟩]) rfl rfl rfl rfl rfl rfl) rfl rfl rfl ?_; refine At.Quiet.y (Y.lookup (k := (⟨L, a2⟩ : Q7)) (z := (⟨(0 : Int), (0 : Int), (0 : Int), (0 : Int)⟩ : Q0)) (.s (.s (.s (.s (.s .z))))) rfl rfl Q7.keyok (by kernel_rfl) rfl rfl rfl) rfl rfl rfl ?_; refine At.Quiet.y (Y.load rfl rfl (.s (.s .z)) rfl rfl rfl) rfl rfl rfl ?_; obtain ⟨Z, d7, j⟩ := bbind j; refine At.Quiet.call rfl Q97.callee rfl rfl rfl (Q97.spec d7) (fun _ _ h_ => ⟨h_.1, fun _ hs => h_.2 ▸ hs⟩) ?_; refine At.Quiet.y (Y.buildA (is := []) (xo := []) (vs := []) (cs := [.int .u64 0, .int .u64 0, .int .u64 0, .int .u64 0]) rfl rfl rfl rfl rfl rfl) rfl rfl rfl ?_; refine At.Quiet.y (Y.neAr (xs := [.int .u64 Z.1, .int .u64 Z.2.1, .int .u64 Z.2.2.1, .int .u64 Z.2.2.2]) (ys := [.int .u64 0, .int .u64 0, .int .u64 0, .int .u64 0]) rfl rfl rfl rfl rfl rfl rfl (by kernel_rfl) rfl) rfl rfl rfl ?_; refine At.Quiet.nil (At.thn ?_); rcases bite j with ⟨b5, j⟩ | ⟨b5, j⟩
       ··refine At.condF rfl (nf b5) ?_
         refine At.skip ?_; refine At.ibn ?_; refine At.thn ?_; exact fun a w e hs => b6 (a6, a7, a8, a9) j a w (e.sub ⟨rfl, rfl, rfl, rfl, rfl, rfl, rfl, trivial⟩) hs
       ··refine At.condT rfl (nt (bn b5)) ?_
         refine At.region (At.y (Y.load rfl rfl .z rfl rfl rfl) rfl rfl rfl (At.run 1 rfl ?_)); obtain ⟨a0, d8, j⟩ := bbind j; refine At.call rfl Q21.callee rfl rfl rfl (Q21.spec d8) ?_; rintro _ _ ⟨rfl, rfl⟩; refine At.store rfl rfl rfl rfl .z rfl rfl rfl (.c (.c (.c (.c .n)))) ?_; refine At.nil ?_; refine At.ibn ?_; refine At.thn ?_; exact fun a w e hs => b6 (a0.1, a0.2.1, a0.2.2.1, a0.2.2.2) j a w (e.sub ⟨rfl, rfl, rfl, rfl, rfl, rfl, rfl, trivial⟩) hs
   ··refine At.condF rfl (decide_eq_false b4) ?_
     refine At.exit ?_; refine At.the ?_; refine At.the ?_; exact fun a w e hs => c8 (a6, a7, a8, a9) (bdn j b9) a w (e.sub ⟨rfl, rfl, trivial⟩) hs

theorem Q13.callee : Callee Tryz.prog 79 := ⟨_, Tryz.func79, by kernel_rfl, by kernel_rfl⟩
def Q13.SP (self_ : Int → (List (Bs × Q0)) → (List (Q7 × Q0)) → (List Q9) → (List Int) → Int → Int → Int → Int → (List Q0) → Int → Option ((List Q0) × Int × Int × Int × Int)) : Prop :=
 ∀ (R : Res) (Fr : List HProp) (b0 : Nat) (b0_0 : Nat) (b0_0_1 : Nat) (b0_0_2 : Nat) (A0_1 : Option Addr) (n0_1 : Nat) (c0_1 : Nat) (A0_2 : Option Addr) (n0_2 : Nat) (c0_2 : Nat) (A0_7 : Option Addr) (n0_7 : Nat) (c0_7 : Nat) (a0_0_0 : Int) (a0_0_1 : List (Bs × Q0)) (a0_0_2 : List (Q7 × Q0)) (a0_1 : List Q9) (a0_2 : List Int) (a0_3 : Int) (a0_4 : Int) (a0_5 : Int) (a0_6 : Int) (a0_7 : List Q0) (a1 : Int) (hr0_1 : RdS Q9.fl.rep R.heap A0_1 a0_1) (hn0_1 : a0_1.length = n0_1) (hc0_1 : n0_1 ≤ c0_1) (hn0_2 : a0_2.length = n0_2) (hn0_7 : a0_7.length = n0_7) {r : (List Q0) × Int × Int × Int × Int} (j : self_ a0_0_0 a0_0_1 a0_0_2 a0_1 a0_2 a0_3 a0_4 a0_5 a0_6 a0_7 a1 = some r),
  Spec Tryz.prog 79 [bp b0, i6 a1] R (pc b0 [bp b0_0, .slice A0_1 n0_1 c0_1, .slice A0_2 n0_2 c0_2, .int .u64 a0_3, .int .u64 a0_4, .int .u64 a0_5, .int .u64 a0_6, .slice A0_7 n0_7 c0_7] 177 :: pc b0_0 [i6 a0_0_0, .map (some b0_0_1), .map (some b0_0_2)] 91 :: mapo Fl.bs.ov Q0.fl.av b0_0_1 a0_0_1 :: mapo Q7.fl.av Q0.fl.av b0_0_2 a0_0_2 :: row (Fl.int .i64) 3 A0_2 n0_2 c0_2 a0_2 :: row Q0.fl 43 A0_7 n0_7 c0_7 a0_7 :: Fr) (fun v l' => v = .agg #[.int .u64 r.2.1, .int .u64 r.2.2.1, .int .u64 r.2.2.2.1, .int .u64 r.2.2.2.2] ∧ pc b0 [bp b0_0, .slice A0_1 n0_1 c0_1, .slice A0_2 n0_2 c0_2, .int .u64 a0_3, .int .u64 a0_4, .int .u64 a0_5, .int .u64 a0_6, .slice A0_7 n0_7 c0_7] 177 :: pc b0_0 [i6 a0_0_0, .map (some b0_0_1), .map (some b0_0_2)] 91 :: mapo Fl.bs.ov Q0.fl.av b0_0_1 a0_0_1 :: mapo Q7.fl.av Q0.fl.av b0_0_2 a0_0_2 :: row (Fl.int .i64) 3 A0_2 n0_2 c0_2 a0_2 :: row Q0.fl 43 A0_7 n0_7 c0_7 r.1 :: Fr = l')
theorem Q22.callee : Callee Tryz.prog 120 := ⟨_, Tryz.func120, by kernel_rfl, by kernel_rfl⟩
def Q22.SP (self_ : Int → (List (Bs × Q0)) → (List (Q7 × Q0)) → (List Q9) → (List Int) → Int → Int → Int → Int → (List Q0) → Int → Int → Int → Int → Int → Option ((List Q0) × Int × Int × Int × Int)) : Prop :=
 ∀ (R : Res) (Fr : List HProp) (b0 : Nat) (b0_0 : Nat) (b0_0_1 : Nat) (b0_0_2 : Nat) (A0_1 : Option Addr) (n0_1 : Nat) (c0_1 : Nat) (A0_2 : Option Addr) (n0_2 : Nat) (c0_2 : Nat) (A0_7 : Option Addr) (n0_7 : Nat) (c0_7 : Nat) (a0_0_0 : Int) (a0_0_1 : List (Bs × Q0)) (a0_0_2 : List (Q7 × Q0)) (a0_1 : List Q9) (a0_2 : List Int) (a0_3 : Int) (a0_4 : Int) (a0_5 : Int) (a0_6 : Int) (a0_7 : List Q0) (a1 : Int) (a2_0 : Int) (a2_1 : Int) (a2_2 : Int) (a2_3 : Int) (hr0_1 : RdS Q9.fl.rep R.heap A0_1 a0_1) (hn0_1 : a0_1.length = n0_1) (hc0_1 : n0_1 ≤ c0_1) (hn0_2 : a0_2.length = n0_2) (hn0_7 : a0_7.length = n0_7) {r : (List Q0) × Int × Int × Int × Int} (j : self_ a0_0_0 a0_0_1 a0_0_2 a0_1 a0_2 a0_3 a0_4 a0_5 a0_6 a0_7 a1 a2_0 a2_1 a2_2 a2_3 = some r),
  Spec Tryz.prog 120 [bp b0, i6 a1, .agg #[.int .u64 a2_0, .int .u64 a2_1, .int .u64 a2_2, .int .u64 a2_3]] R (pc b0 [bp b0_0, .slice A0_1 n0_1 c0_1, .slice A0_2 n0_2 c0_2, .int .u64 a0_3, .int .u64 a0_4, .int .u64 a0_5, .int .u64 a0_6, .slice A0_7 n0_7 c0_7] 177 :: pc b0_0 [i6 a0_0_0, .map (some b0_0_1), .map (some b0_0_2)] 91 :: mapo Fl.bs.ov Q0.fl.av b0_0_1 a0_0_1 :: mapo Q7.fl.av Q0.fl.av b0_0_2 a0_0_2 :: row (Fl.int .i64) 3 A0_2 n0_2 c0_2 a0_2 :: row Q0.fl 43 A0_7 n0_7 c0_7 a0_7 :: Fr) (fun v l' => v = .agg #[.int .u64 r.2.1, .int .u64 r.2.2.1, .int .u64 r.2.2.2.1, .int .u64 r.2.2.2.2] ∧ pc b0 [bp b0_0, .slice A0_1 n0_1 c0_1, .slice A0_2 n0_2 c0_2, .int .u64 a0_3, .int .u64 a0_4, .int .u64 a0_5, .int .u64 a0_6, .slice A0_7 n0_7 c0_7] 177 :: pc b0_0 [i6 a0_0_0, .map (some b0_0_1), .map (some b0_0_2)] 91 :: mapo Fl.bs.ov Q0.fl.av b0_0_1 a0_0_1 :: mapo Q7.fl.av Q0.fl.av b0_0_2 a0_0_2 :: row (Fl.int .i64) 3 A0_2 n0_2 c0_2 a0_2 :: row Q0.fl 43 A0_7 n0_7 c0_7 r.1 :: Fr = l')
noncomputable def Q13.g (self_0 : Int → (List (Bs × Q0)) → (List (Q7 × Q0)) → (List Q9) → (List Int) → Int → Int → Int → Int → (List Q0) → Int → Option ((List Q0) × Int × Int × Int × Int)) (self_1 : Int → (List (Bs × Q0)) → (List (Q7 × Q0)) → (List Q9) → (List Int) → Int → Int → Int → Int → (List Q0) → Int → Int → Int → Int → Int → Option ((List Q0) × Int × Int × Int × Int)) (D : Int) (G : List (Bs × Q0)) (I : List (Q7 × Q0)) (p : List Q9) (q : List Int) (J L O U : Int) (u : List Q0) (a1 : Int) : Option ((List Q0) × Int × Int × Int × Int) :=
 if (0 : Int) ≤ a1 ∧ a1 < (p.length : Int) then
 if (gt p a1).Kind = 1 then
 some (u, J, L, O, U)
 else
 if (gt p a1).Kind = 3 then
 (Q71.f D G I ((gt p a1).Name)).bind fun a7 =>
 some (u, a7.1, a7.2.1, a7.2.2.1, a7.2.2.2)
 else
 if (gt p a1).Kind = 12 then
 (Q71.f D G I ((gt p a1).Name)).bind fun a8 =>
 (Q66.f D G I p q J L O U u a8.1 a8.2.1 a8.2.2.1 a8.2.2.2).bind fun a9 =>
 some (u, a9.1, a9.2.1, a9.2.2.1, a9.2.2.2)
 else
 if (gt p a1).Kind = 4 then
 if (0 : Int) ≤ a1 ∧ a1 < (q.length : Int) then
 if (0 : Int) ≤ gt q a1 ∧ gt q a1 < (u.length : Int) then
 some (u, (gt u (gt q a1)).c0, (gt u (gt q a1)).c1, (gt u (gt q a1)).c2, (gt u (gt q a1)).c3)
 else none
 else none
 else
 if (gt p a1).Kind = 5 then
 (self_0 D G I p q J L O U u ((gt p a1).A)).bind fun X =>
 (Q66.f D G I p q J L O U X.1 X.2.1 X.2.2.1 X.2.2.2.1 X.2.2.2.2).bind fun b4 =>
 some (X.1, b4.1, b4.2.1, b4.2.2.1, b4.2.2.2)
 else
 if (gt p a1).Kind = 6 then
 (self_0 D G I p q J L O U u ((gt p a1).A)).bind fun Z =>
 (self_0 D G I p q J L O U Z.1 ((gt p a1).B)).bind fun a0 =>
 (Q97.f Z.2.1 Z.2.2.1 Z.2.2.2.1 Z.2.2.2.2 a0.2.1 a0.2.2.1 a0.2.2.2.1 a0.2.2.2.2).bind fun b5 =>
 some (a0.1, b5.1, b5.2.1, b5.2.2.1, b5.2.2.2)
 else
 if (gt p a1).Kind = 7 then
 (self_0 D G I p q J L O U u ((gt p a1).A)).bind fun a2 =>
 (self_0 D G I p q J L O U a2.1 ((gt p a1).B)).bind fun a3 =>
 (Q126.f a2.2.1 a2.2.2.1 a2.2.2.2.1 a2.2.2.2.2 a3.2.1 a3.2.2.1 a3.2.2.2.1 a3.2.2.2.2).bind fun b6 =>
 some (a3.1, b6.1, b6.2.1, b6.2.2.1, b6.2.2.2)
 else
 if (gt p a1).Kind = 8 then
 (self_0 D G I p q J L O U u ((gt p a1).A)).bind fun a4 =>
 (Q36.f D G I a4.2.1 a4.2.2.1 a4.2.2.2.1 a4.2.2.2.2 ((gt p a1).Name)).bind fun b7 =>
 some (a4.1, b7.1, b7.2.1, b7.2.2.1, b7.2.2.2)
 else
 if (gt p a1).Kind = 9 then
 (self_0 D G I p q J L O U u ((gt p a1).A)).bind fun V =>
 (Q66.f D G I p q J L O U V.1 V.2.1 V.2.2.1 V.2.2.2.1 V.2.2.2.2).bind fun b8 =>
 (Q36.f D G I b8.1 b8.2.1 b8.2.2.1 b8.2.2.2 ((gt p a1).Name)).bind fun b9 =>
 (Q66.f D G I p q J L O U V.1 b9.1 b9.2.1 b9.2.2.1 b9.2.2.2).bind fun c8 =>
 some (V.1, c8.1, c8.2.1, c8.2.2.1, c8.2.2.2)
 else
 if (gt p a1).Kind = 10 then
 (self_1 D G I p q J L O U u a1 0 0 0 0).bind fun a5 =>
 some (a5.1, a5.2.1, a5.2.2.1, a5.2.2.2.1, a5.2.2.2.2)
 else
 if (gt p a1).Kind = 11 then
 (self_1 D G I p q J L O U u a1 J L O U).bind fun a6 =>
 some (a6.1, a6.2.1, a6.2.2.1, a6.2.2.2.1, a6.2.2.2.2)
 else
 some (u, 0, 0, 0, 0)
 else none
noncomputable def Q22.l0b (u : Int) (D : List (Bs × Q0)) (G : List (Q7 × Q0)) (q : List Q9) (I : List Int) (J L O U a1 : Int) (self_0 : Int → (List (Bs × Q0)) → (List (Q7 × Q0)) → (List Q9) → (List Int) → Int → Int → Int → Int → (List Q0) → Int → Option ((List Q0) × Int × Int × Int × Int)) (V : List Q0) : Option (((List Q0)) ⊕ ((Unit) ⊕ ((List Q0) × Int × Int × Int × Int))) :=
 if (0 : Int) ≤ a1 ∧ a1 < (q.length : Int) then
 (self_0 u D G q I J L O U V ((gt q a1).A)).bind fun p =>
 if (decide (p.2.1 = (gt p.1 a1).c0) && (decide (p.2.2.1 = (gt p.1 a1).c1) && (decide (p.2.2.2.1 = (gt p.1 a1).c2) && (decide (p.2.2.2.2 = (gt p.1 a1).c3) && true)))) = true then
 upL (some (p.1, p.2.1, p.2.2.1, p.2.2.2.1, p.2.2.2.2))
 else
 nx (st p.1 a1 (⟨p.2.1, p.2.2.1, p.2.2.2.1, p.2.2.2.2⟩ : Q0))
 else none
noncomputable def Q22.l0 (p : Int) (q : List (Bs × Q0)) (u : List (Q7 × Q0)) (D : List Q9) (G : List Int) (I J L O a1 : Int) (self_0 : Int → (List (Bs × Q0)) → (List (Q7 × Q0)) → (List Q9) → (List Int) → Int → Int → Int → Int → (List Q0) → Int → Option ((List Q0) × Int × Int × Int × Int)) (U : List Q0) : Option ((Unit) ⊕ ((List Q0) × Int × Int × Int × Int)) := iter (fun t_ : (List Q0) => Q22.l0b p q u D G I J L O a1 self_0 t_) U
noncomputable def Q22.g (self_0 : Int → (List (Bs × Q0)) → (List (Q7 × Q0)) → (List Q9) → (List Int) → Int → Int → Int → Int → (List Q0) → Int → Option ((List Q0) × Int × Int × Int × Int)) (self_1 : Int → (List (Bs × Q0)) → (List (Q7 × Q0)) → (List Q9) → (List Int) → Int → Int → Int → Int → (List Q0) → Int → Int → Int → Int → Int → Option ((List Q0) × Int × Int × Int × Int)) (q : Int) (u : List (Bs × Q0)) (D : List (Q7 × Q0)) (G : List Q9) (I : List Int) (J L O U : Int) (p : List Q0) (a1 V X Z a0 : Int) : Option ((List Q0) × Int × Int × Int × Int) :=
 if (0 : Int) ≤ a1 ∧ a1 < (p.length : Int) then
 jn (Q22.l0 q u D G I J L O U a1 self_0 (st p a1 (⟨V, X, Z, a0⟩ : Q0))) (fun (_ : Unit) => none)
 else none
noncomputable def Q13.tab : Nat → (Int → (List (Bs × Q0)) → (List (Q7 × Q0)) → (List Q9) → (List Int) → Int → Int → Int → Int → (List Q0) → Int → Option ((List Q0) × Int × Int × Int × Int)) × (Int → (List (Bs × Q0)) → (List (Q7 × Q0)) → (List Q9) → (List Int) → Int → Int → Int → Int → (List Q0) → Int → Int → Int → Int → Int → Option ((List Q0) × Int × Int × Int × Int))
 | 0 => (fun _ _ _ _ _ _ _ _ _ _ _ => none, fun _ _ _ _ _ _ _ _ _ _ _ _ _ _ _ => none)
 | k_ + 1 => (Q13.g ((Q13.tab k_).1) ((Q13.tab k_).2), Q22.g ((Q13.tab k_).1) ((Q13.tab k_).2))
noncomputable def Q13.n (k_ : Nat) : Int → (List (Bs × Q0)) → (List (Q7 × Q0)) → (List Q9) → (List Int) → Int → Int → Int → Int → (List Q0) → Int → Option ((List Q0) × Int × Int × Int × Int) := (Q13.tab k_).1
noncomputable def Q13.f (p : Int) (q : List (Bs × Q0)) (u : List (Q7 × Q0)) (D : List Q9) (G : List Int) (I J L O : Int) (U : List Q0) (a1 : Int) : Option ((List Q0) × Int × Int × Int × Int) := recF fun k_ => Q13.n k_ p q u D G I J L O U a1
noncomputable def Q22.n (k_ : Nat) : Int → (List (Bs × Q0)) → (List (Q7 × Q0)) → (List Q9) → (List Int) → Int → Int → Int → Int → (List Q0) → Int → Int → Int → Int → Int → Option ((List Q0) × Int × Int × Int × Int) := (Q13.tab k_).2
theorem Q13.step (self_0 : Int → (List (Bs × Q0)) → (List (Q7 × Q0)) → (List Q9) → (List Int) → Int → Int → Int → Int → (List Q0) → Int → Option ((List Q0) × Int × Int × Int × Int)) (self_1 : Int → (List (Bs × Q0)) → (List (Q7 × Q0)) → (List Q9) → (List Int) → Int → Int → Int → Int → (List Q0) → Int → Int → Int → Int → Int → Option ((List Q0) × Int × Int × Int × Int)) (ih_0 : Q13.SP self_0) (ih_1 : Q22.SP self_1) :
 Q13.SP (Q13.g self_0 self_1) := by
 intro R Fr b0 b0_0 b0_0_1 b0_0_2 A0_1 n0_1 c0_1 A0_2 n0_2 c0_2 A0_7 n0_7 c0_7 O U V p u G I J L D a1 hr0_1 hn0_1 hc0_1 hn0_2 hn0_7 r j; subst hn0_1; subst hn0_2; subst hn0_7; refine Spec.of Tryz.func79 rfl rfl ?_; unfold Q13.g at j; have j := brun j; refine At.seq (At.region ?_); refine At.alloc rfl rfl rfl (fun f2 => ?_); refine nT (sR 3 rfl (At.y (Y.load rfl rfl (.s .z) rfl rfl rfl) rfl rfl rfl (At.run 1 rfl ?_))); obtain ⟨Z, j⟩ := bnone j; refine At.y (Y.ixRd hr0_1 rfl rfl rfl rfl rfl rfl rfl Z.1 Z.2) rfl rfl rfl (At.y (Y.ldFl hr0_1 rfl (q := 0) rfl rfl Z.1 Z.2 rfl rfl rfl) rfl rfl rfl ?_); refine At.alloc rfl rfl rfl (fun X => ?_); refine At.store rfl rfl rfl rfl .z rfl rfl rfl (.c (.c (.c (.c (.c .n))))) ?_; refine nT (At.seq (sR 1 rfl (At.y (Y.load rfl rfl .z rfl rfl rfl) rfl rfl rfl (At.nil ?_)))); refine At.thn ?_; refine At.block ?_; refine sR 2 rfl (nT ?_); rcases bite j with ⟨a3, j⟩ | ⟨a3, j⟩
 ··refine At.condT rfl (decide_eq_true a3) ?_
   refine sR 3 rfl (At.y (Y.load rfl rfl (.s (.s .z)) rfl rfl rfl) rfl rfl rfl ?_); refine At.store rfl rfl rfl rfl (.s .z) rfl rfl rfl (.c (.c (.c (.c .n)))) ?_; refine nT (At.ret ?_); refine At.ibr ?_; refine At.thr ?_; refine At.resM (.inl rfl) rfl (RV.cell rfl rfl .z rfl rfl rfl RV.nil) ?_; refine At.drop .z (At.drop .z ?_); cases bret j; exact fun a w e hs => ⟨_, ⟨rfl, rfl⟩, hs⟩
 ··refine At.condF rfl (decide_eq_false a3) ?_
   refine sR 2 rfl (nT ?_); rcases bite j with ⟨a4, j⟩ | ⟨a4, j⟩
   ··refine At.condT rfl (decide_eq_true a4) ?_
     refine At.seq ?_; refine At.held [pc X [i6 ((gt p a1).Kind), i6 ((gt p a1).A), i6 ((gt p a1).B), .string ⟨((gt p a1).Name).toArray⟩, i6 ((gt p a1).At)] 171, pc b0 [bp b0_0, .slice A0_1 p.length c0_1, .slice A0_2 u.length c0_2, .int .u64 G, .int .u64 I, .int .u64 J, .int .u64 L, .slice A0_7 D.length c0_7] 177, pc b0_0 [i6 O, .map (some b0_0_1), .map (some b0_0_2)] 91, mapo Fl.bs.ov Q0.fl.av b0_0_1 U, mapo Q7.fl.av Q0.fl.av b0_0_2 V, row (Fl.int .i64) 3 A0_2 u.length c0_2 u, row Q0.fl 43 A0_7 D.length c0_7 D] 8 rfl ?_; refine At.H.pw 0 rfl rfl rfl rfl rfl (.c .z (.c (.s .z) (.c (.s .z) (.c (.s .z) (.c (.s .z) (.c (.s .z) (.c (.s .z) .n))))))) ?_; refine At.H.pw 1 rfl rfl rfl rfl rfl (.c .z (.c (.s .z) (.c (.s .z) (.c (.s .z) (.c (.s .z) (.c (.s .z) (.c (.s .z) .n))))))) ?_; refine At.H.pw 2 rfl rfl rfl rfl rfl (.c .z (.c (.s .z) (.c (.s .z) (.c (.s .z) (.c (.s .z) (.c (.s .z) (.c (.s .z) .n))))))) ?_; refine At.H.tw 3 rfl (Y.load rfl rfl (.s .z) rfl rfl rfl) rfl rfl rfl (.c .z (.c (.s .z) (.c (.s .z) (.c (.s .z) (.c (.s .z) (.c (.s .z) (.c (.s .z) .n))))))) ?_; refine At.H.pw 4 rfl rfl rfl rfl rfl (.c .z (.c (.s .z) (.c (.s .z) (.c (.s .z) (.c (.s .z) (.c (.s .z) (.c (.s .z) .n))))))) ?_; refine At.H.tw 5 rfl (Y.load rfl rfl .z rfl rfl rfl) rfl rfl rfl (.c .z (.c (.s .z) (.c (.s .z) (.c (.s .z) (.c (.s .z) (.c (.s .z) (.c (.s .z) .n))))))) ?_; refine At.H.al [6] (Q4 ?_ Q6)
     ··refine At.HO.op rfl ?_
       refine At.f5 (At.f5 (At.f5 ?_)); obtain ⟨f6, b8, j⟩ := bbind j; refine At.call rfl Q71.callee rfl rfl rfl (Q71.spec b8) ?_; rintro _ _ ⟨rfl, rfl⟩; refine At.HO.back (.c (.s (.s (.s .z))) (.c (.s (.s (.s (.s .z)))) (.c .z (.c .z (.c .z (.c (.s .z) (.c (.s .z) .n))))))) ?_; refine At.H.al [7] (Q4 ?_ Q6)
       ··refine At.HO.op rfl ?_
         refine At.store rfl rfl rfl rfl (.s (.s (.s (.s .z)))) rfl rfl rfl (.c (.c (.c (.c .n)))) ?_; refine At.HO.back (.c (.s (.s (.s (.s .z)))) (.c (.s (.s (.s (.s .z)))) (.c (.s .z) (.c (.s .z) (.c (.s .z) (.c (.s .z) (.c (.s .z) .n))))))) ?_; refine At.H.done (by kernel_rfl) ?_; refine At.thn (At.ret ?_); refine At.ibr ?_; refine At.thr ?_; refine At.resM (.inl rfl) rfl (RV.cell rfl rfl .z rfl rfl rfl RV.nil) ?_; refine At.drop .z (At.drop (.s (.s (.s .z))) (At.f5 (At.f5 (At.f4 (At.f4 (At.f4 (At.f5 ?_))))))); cases bret j; exact fun a w e hs => ⟨_, ⟨rfl, rfl⟩, hs⟩
   ··refine At.condF rfl (decide_eq_false a4) ?_
     refine sR 2 rfl (nT ?_); rcases bite j with ⟨a5, j⟩ | ⟨a5, j⟩
     ··refine At.condT rfl (decide_eq_true a5) ?_
       refine At.seq ?_; refine At.held [pc X [i6 ((gt p a1).Kind), i6 ((gt p a1).A), i6 ((gt p a1).B), .string ⟨((gt p a1).Name).toArray⟩, i6 ((gt p a1).At)] 171, pc b0 [bp b0_0, .slice A0_1 p.length c0_1, .slice A0_2 u.length c0_2, .int .u64 G, .int .u64 I, .int .u64 J, .int .u64 L, .slice A0_7 D.length c0_7] 177, pc b0_0 [i6 O, .map (some b0_0_1), .map (some b0_0_2)] 91, mapo Fl.bs.ov Q0.fl.av b0_0_1 U, mapo Q7.fl.av Q0.fl.av b0_0_2 V, row (Fl.int .i64) 3 A0_2 u.length c0_2 u, row Q0.fl 43 A0_7 D.length c0_7 D] 10 rfl ?_; refine At.H.pw 0 rfl rfl rfl rfl rfl (.c .z (.c (.s .z) (.c (.s .z) (.c (.s .z) (.c (.s .z) (.c (.s .z) (.c (.s .z) .n))))))) ?_; refine At.H.pw 1 rfl rfl rfl rfl rfl (.c .z (.c (.s .z) (.c (.s .z) (.c (.s .z) (.c (.s .z) (.c (.s .z) (.c (.s .z) .n))))))) ?_; refine At.H.pw 2 rfl rfl rfl rfl rfl (.c .z (.c (.s .z) (.c (.s .z) (.c (.s .z) (.c (.s .z) (.c (.s .z) (.c (.s .z) .n))))))) ?_; refine At.H.pw 3 rfl rfl rfl rfl rfl (.c .z (.c (.s .z) (.c (.s .z) (.c (.s .z) (.c (.s .z) (.c (.s .z) (.c (.s .z) .n))))))) ?_; refine At.H.tw 4 rfl (Y.load rfl rfl (.s .z) rfl rfl rfl) rfl rfl rfl (.c .z (.c (.s .z) (.c (.s .z) (.c (.s .z) (.c (.s .z) (.c (.s .z) (.c (.s .z) .n))))))) ?_; refine At.H.pw 5 rfl rfl rfl rfl rfl (.c .z (.c (.s .z) (.c (.s .z) (.c (.s .z) (.c (.s .z) (.c (.s .z) (.c (.s .z) .n))))))) ?_; refine At.H.tw 6 rfl (Y.load rfl rfl .z rfl rfl rfl) rfl rfl rfl (.c .z (.c (.s .z) (.c (.s .z) (.c (.s .z) (.c (.s .z) (.c (.s .z) (.c (.s .z) .n))))))) ?_; refine At.H.al [7] (Q4 ?_ Q6)
       ··refine At.HO.op rfl ?_
         refine At.f5 (At.f5 (At.f5 ?_)); obtain ⟨f8, b9, j⟩ := bbind j; refine At.call rfl Q71.callee rfl rfl rfl (Q71.spec b9) ?_; rintro _ _ ⟨rfl, rfl⟩; refine At.HO.back (.c (.s (.s (.s .z))) (.c (.s (.s (.s (.s .z)))) (.c .z (.c .z (.c .z (.c (.s .z) (.c (.s .z) .n))))))) ?_; refine At.H.al [8] (Q4 ?_ Q6)
         ··refine At.HO.op rfl ?_
           refine At.f7 (At.f7 (At.f4 (At.f4 (At.f4 (At.f7 ?_))))); obtain ⟨f9, c8, j⟩ := bbind j; refine At.call rfl Q66.callee rfl rfl rfl (Q66.spec hr0_1 rfl hc0_1 rfl rfl c8) ?_; rintro _ _ ⟨rfl, rfl⟩; refine At.HO.back (.c (.s (.s (.s (.s (.s (.s .z)))))) (.c .z (.c .z (.c .z (.c .z (.c .z (.c .z .n))))))) ?_; refine At.H.al [9] (Q4 ?_ Q6)
           ··refine At.HO.op rfl ?_
             refine At.store rfl rfl rfl rfl (.s (.s (.s (.s (.s (.s (.s .z))))))) rfl rfl rfl (.c (.c (.c (.c .n)))) ?_; refine At.HO.back (.c (.s (.s (.s (.s (.s (.s (.s .z))))))) (.c (.s .z) (.c (.s .z) (.c (.s .z) (.c (.s .z) (.c (.s .z) (.c (.s .z) .n))))))) ?_; refine At.H.done (by kernel_rfl) ?_; refine At.thn (At.ret ?_); refine At.ibr ?_; refine At.thr ?_; refine At.resM (.inl rfl) rfl (RV.cell rfl rfl .z rfl rfl rfl RV.nil) ?_; refine At.drop .z (At.drop (.s (.s (.s (.s (.s (.s .z)))))) ?_); cases bret j; exact fun a w e hs => ⟨_, ⟨rfl, rfl⟩, hs⟩
     ··refine At.condF rfl (decide_eq_false a5) ?_
       refine sR 2 rfl (nT ?_); rcases bite j with ⟨a6, j⟩ | ⟨a6, j⟩
       ··refine At.condT rfl (decide_eq_true a6) ?_
         refine At.seq ?_; refine At.still 13 (by kernel_rfl) ?_; refine At.Still.run 3 rfl ?_; refine At.Still.y (Y.load rfl rfl (.s (.s .z)) rfl rfl rfl) rfl rfl rfl ?_; refine At.Still.run 3 rfl ?_; refine At.Still.y (Y.load rfl rfl (.s (.s .z)) rfl rfl rfl) rfl rfl rfl ?_; refine At.Still.run 1 rfl ?_; obtain ⟨a0, j⟩ := bnone j; refine At.Still.y (Y.ix (.s (.s (.s (.s (.s (.s .z)))))) rfl rfl rfl rfl rfl rfl a0.1 a0.2) rfl rfl rfl ?_; refine At.Still.y (Y.ld (.s (.s (.s (.s (.s (.s .z)))))) (q := 0) rfl rfl a0.1 a0.2 rfl rfl rfl) rfl rfl rfl ?_; obtain ⟨a2, j⟩ := bnone j; refine At.Still.y (Y.ix (.s (.s (.s (.s (.s (.s (.s .z))))))) rfl rfl rfl rfl rfl rfl a2.1 a2.2) rfl rfl rfl ?_; refine At.Still.y (Y.ld (.s (.s (.s (.s (.s (.s (.s .z))))))) (q := 0) rfl rfl a2.1 a2.2 rfl rfl rfl) rfl rfl rfl ?_; refine At.Still.nil ?_; refine At.store rfl rfl rfl rfl (.s .z) rfl rfl rfl (.c (.c (.c (.c .n)))) ?_; refine nT (At.ret ?_); refine At.ibr ?_; refine At.thr ?_; refine At.resM (.inl rfl) rfl (RV.cell rfl rfl .z rfl rfl rfl RV.nil) ?_; refine At.drop .z (At.drop .z ?_); cases bret j; exact fun a w e hs => ⟨_, ⟨rfl, rfl⟩, hs⟩
       ··refine At.condF rfl (decide_eq_false a6) ?_
         refine sR 2 rfl (nT ?_); rcases bite j with ⟨a7, j⟩ | ⟨a7, j⟩
         ··refine At.condT rfl (decide_eq_true a7) ?_
           refine sR 3 rfl (At.y (Y.load rfl rfl .z rfl rfl rfl) rfl rfl rfl (At.f7 (At.f7 (At.f7 (At.f7 ?_))))); refine At.f7 (At.f7 ?_); obtain ⟨g0, c9, j⟩ := bbind j; refine At.call rfl Q13.callee rfl rfl rfl (ih_0 _ _ b0 b0_0 b0_0_1 b0_0_2 A0_1 p.length c0_1 A0_2 u.length c0_2 A0_7 D.length c0_7 O U V p u G I J L D ((gt p a1).A) hr0_1 rfl hc0_1 rfl rfl c9) ?_; rintro _ _ ⟨rfl, rfl⟩; refine At.rowLen (.s (.s (.s (.s (.s .z))))) fun d0 => ?_; obtain ⟨g1, d1, j⟩ := bbind j; refine At.call rfl Q66.callee rfl rfl rfl (Q66.spec hr0_1 rfl hc0_1 rfl d0 d1) ?_; rintro _ _ ⟨rfl, rfl⟩; refine At.store rfl rfl rfl rfl (.s (.s (.s (.s (.s (.s (.s .z))))))) rfl rfl rfl (.c (.c (.c (.c .n)))) ?_; refine nT (At.ret ?_); refine At.ibr ?_; refine At.thr ?_; refine At.resM (.inl rfl) rfl (RV.cell rfl rfl .z rfl rfl rfl RV.nil) ?_; refine At.drop .z (At.drop (.s (.s (.s (.s (.s (.s .z)))))) ?_); cases bret j; exact fun a w e hs => ⟨_, ⟨rfl, rfl⟩, hs⟩
         ··refine At.condF rfl (decide_eq_false a7) ?_
           refine sR 2 rfl (nT ?_); rcases bite j with ⟨a8, j⟩ | ⟨a8, j⟩
           ··refine At.condT rfl (decide_eq_true a8) ?_
             refine At.seq ?_; refine At.held [pc X [i6 ((gt p a1).Kind), i6 ((gt p a1).A), i6 ((gt p a1).B), .string ⟨((gt p a1).Name).toArray⟩, i6 ((gt p a1).At)] 171, pc b0 [bp b0_0, .slice A0_1 p.length c0_1, .slice A0_2 u.length c0_2, .int .u64 G, .int .u64 I, .int .u64 J, .int .u64 L, .slice A0_7 D.length c0_7] 177, pc b0_0 [i6 O, .map (some b0_0_1), .map (some b0_0_2)] 91, mapo Fl.bs.ov Q0.fl.av b0_0_1 U, mapo Q7.fl.av Q0.fl.av b0_0_2 V, row (Fl.int .i64) 3 A0_2 u.length c0_2 u] 10 rfl ?_; refine At.H.pw 0 rfl rfl rfl rfl rfl (.c .z (.c (.s .z) (.c (.s .z) (.c (.s .z) (.c (.s .z) (.c (.s .z) .n)))))) ?_; refine At.H.pw 1 rfl rfl rfl rfl rfl (.c .z (.c (.s .z) (.c (.s .z) (.c (.s .z) (.c (.s .z) (.c (.s .z) .n)))))) ?_; refine At.H.tw 2 rfl (Y.load rfl rfl .z rfl rfl rfl) rfl rfl rfl (.c .z (.c (.s .z) (.c (.s .z) (.c (.s .z) (.c (.s .z) (.c (.s .z) .n)))))) ?_; refine At.H.pw 4 rfl rfl rfl rfl rfl (.c .z (.c (.s .z) (.c (.s .z) (.c (.s .z) (.c (.s .z) (.c (.s .z) .n)))))) ?_; refine At.H.pw 5 rfl rfl rfl rfl rfl (.c .z (.c (.s .z) (.c (.s .z) (.c (.s .z) (.c (.s .z) (.c (.s .z) .n)))))) ?_; refine At.H.tw 6 rfl (Y.load rfl rfl .z rfl rfl rfl) rfl rfl rfl (.c .z (.c (.s .z) (.c (.s .z) (.c (.s .z) (.c (.s .z) (.c (.s .z) .n)))))) ?_; refine At.H.al [3] (Q4 ?_ Q6)
             ··refine At.HO.op rfl ?_
               refine At.f7 (At.f7 (At.f7 (At.f7 (At.f7 (At.f7 ?_))))); obtain ⟨d2, d3, j⟩ := bbind j; refine At.call rfl Q13.callee rfl rfl rfl (ih_0 _ _ b0 b0_0 b0_0_1 b0_0_2 A0_1 p.length c0_1 A0_2 u.length c0_2 A0_7 D.length c0_7 O U V p u G I J L D ((gt p a1).A) hr0_1 rfl hc0_1 rfl rfl d3) ?_; rintro _ _ ⟨rfl, rfl⟩; refine At.HO.back (.c (.s (.s (.s (.s (.s (.s .z)))))) (.c .z (.c .z (.c .z (.c .z (.c .z .n)))))) ?_; refine At.H.al [7] (Q4 ?_ Q6)
               ··refine At.HO.op rfl ?_
                 refine At.rowLen (.s (.s (.s (.s (.s .z))))) fun d4 => ?_; obtain ⟨g2, d5, j⟩ := bbind j; refine At.call rfl Q13.callee rfl rfl rfl (ih_0 _ _ b0 b0_0 b0_0_1 b0_0_2 A0_1 p.length c0_1 A0_2 u.length c0_2 A0_7 D.length c0_7 O U V p u G I J L d2.1 ((gt p a1).B) hr0_1 rfl hc0_1 rfl d4 d5) ?_; rintro _ _ ⟨rfl, rfl⟩; refine At.HO.back (.c (.s (.s (.s (.s (.s (.s .z)))))) (.c .z (.c .z (.c .z (.c .z (.c .z .n)))))) ?_; refine At.H.al [8] (Q4 ?_ Q6)
                 ··refine At.HO.op rfl ?_
                   obtain ⟨g3, d6, j⟩ := bbind j; refine At.call rfl Q97.callee rfl rfl rfl (Q97.spec d6) ?_; rintro _ _ ⟨rfl, rfl⟩; refine At.HO.back (.c (.s (.s (.s (.s (.s (.s .z)))))) (.c .z (.c .z (.c .z (.c .z (.c .z .n)))))) ?_; refine At.H.al [9] (Q4 ?_ Q6)
                   ··refine At.HO.op rfl ?_
                     refine At.store rfl rfl rfl rfl (.s (.s (.s (.s (.s (.s (.s .z))))))) rfl rfl rfl (.c (.c (.c (.c .n)))) ?_; refine At.HO.back (.c (.s (.s (.s (.s (.s (.s (.s .z))))))) (.c (.s .z) (.c (.s .z) (.c (.s .z) (.c (.s .z) (.c (.s .z) .n)))))) ?_; refine At.H.done (by kernel_rfl) ?_; refine At.thn (At.ret ?_); refine At.ibr ?_; refine At.thr ?_; refine At.resM (.inl rfl) rfl (RV.cell rfl rfl .z rfl rfl rfl RV.nil) ?_; refine At.drop .z (At.drop (.s (.s (.s (.s (.s (.s .z)))))) ?_); cases bret j; exact fun a w e hs => ⟨_, ⟨rfl, rfl⟩, hs⟩
           ··refine At.condF rfl (decide_eq_false a8) ?_
             refine sR 2 rfl (nT ?_); rcases bite j with ⟨a9, j⟩ | ⟨a9, j⟩
             ··refine At.condT rfl (decide_eq_true a9) ?_
               refine At.seq ?_; refine At.held [pc X [i6 ((gt p a1).Kind), i6 ((gt p a1).A), i6 ((gt p a1).B), .string ⟨((gt p a1).Name).toArray⟩, i6 ((gt p a1).At)] 171, pc b0 [bp b0_0, .slice A0_1 p.length c0_1, .slice A0_2 u.length c0_2, .int .u64 G, .int .u64 I, .int .u64 J, .int .u64 L, .slice A0_7 D.length c0_7] 177, pc b0_0 [i6 O, .map (some b0_0_1), .map (some b0_0_2)] 91, mapo Fl.bs.ov Q0.fl.av b0_0_1 U, mapo Q7.fl.av Q0.fl.av b0_0_2 V, row (Fl.int .i64) 3 A0_2 u.length c0_2 u] 10 rfl ?_; refine At.H.pw 0 rfl rfl rfl rfl rfl (.c .z (.c (.s .z) (.c (.s .z) (.c (.s .z) (.c (.s .z) (.c (.s .z) .n)))))) ?_; refine At.H.pw 1 rfl rfl rfl rfl rfl (.c .z (.c (.s .z) (.c (.s .z) (.c (.s .z) (.c (.s .z) (.c (.s .z) .n)))))) ?_; refine At.H.tw 2 rfl (Y.load rfl rfl .z rfl rfl rfl) rfl rfl rfl (.c .z (.c (.s .z) (.c (.s .z) (.c (.s .z) (.c (.s .z) (.c (.s .z) .n)))))) ?_; refine At.H.pw 4 rfl rfl rfl rfl rfl (.c .z (.c (.s .z) (.c (.s .z) (.c (.s .z) (.c (.s .z) (.c (.s .z) .n)))))) ?_; refine At.H.pw 5 rfl rfl rfl rfl rfl (.c .z (.c (.s .z) (.c (.s .z) (.c (.s .z) (.c (.s .z) (.c (.s .z) .n)))))) ?_; refine At.H.tw 6 rfl (Y.load rfl rfl .z rfl rfl rfl) rfl rfl rfl (.c .z (.c (.s .z) (.c (.s .z) (.c (.s .z) (.c (.s .z) (.c (.s .z) .n)))))) ?_; refine At.H.al [3] (Q4 ?_ Q6)
               ··refine At.HO.op rfl ?_
                 refine At.f7 (At.f7 (At.f7 (At.f7 (At.f7 (At.f7 ?_))))); obtain ⟨d7, d8, j⟩ := bbind j; refine At.call rfl Q13.callee rfl rfl rfl (ih_0 _ _ b0 b0_0 b0_0_1 b0_0_2 A0_1 p.length c0_1 A0_2 u.length c0_2 A0_7 D.length c0_7 O U V p u G I J L D ((gt p a1).A) hr0_1 rfl hc0_1 rfl rfl d8) ?_; rintro _ _ ⟨rfl, rfl⟩; refine At.HO.back (.c (.s (.s (.s (.s (.s (.s .z)))))) (.c .z (.c .z (.c .z (.c .z (.c .z .n)))))) ?_; refine At.H.al [7] (Q4 ?_ Q6)
                 ··refine At.HO.op rfl ?_
                   refine At.rowLen (.s (.s (.s (.s (.s .z))))) fun d9 => ?_; obtain ⟨g4, e0, j⟩ := bbind j; refine At.call rfl Q13.callee rfl rfl rfl (ih_0 _ _ b0 b0_0 b0_0_1 b0_0_2 A0_1 p.length c0_1 A0_2 u.length c0_2 A0_7 D.length c0_7 O U V p u G I J L d7.1 ((gt p a1).B) hr0_1 rfl hc0_1 rfl d9 e0) ?_; rintro _ _ ⟨rfl, rfl⟩; refine At.HO.back (.c (.s (.s (.s (.s (.s (.s .z)))))) (.c .z (.c .z (.c .z (.c .z (.c .z .n)))))) ?_; refine At.H.al [8] (Q4 ?_ Q6)
                   ··refine At.HO.op rfl ?_
                     obtain ⟨g5, e1, j⟩ := bbind j; refine At.call rfl Q126.callee rfl rfl rfl (Q126.spec e1) ?_; rintro _ _ ⟨rfl, rfl⟩; refine At.HO.back (.c (.s (.s (.s (.s (.s (.s .z)))))) (.c .z (.c .z (.c .z (.c .z (.c .z .n)))))) ?_; refine At.H.al [9] (Q4 ?_ Q6)
                     ··refine At.HO.op rfl ?_
                       refine At.store rfl rfl rfl rfl (.s (.s (.s (.s (.s (.s (.s .z))))))) rfl rfl rfl (.c (.c (.c (.c .n)))) ?_; refine At.HO.back (.c (.s (.s (.s (.s (.s (.s (.s .z))))))) (.c (.s .z) (.c (.s .z) (.c (.s .z) (.c (.s .z) (.c (.s .z) .n)))))) ?_; refine At.H.done (by kernel_rfl) ?_; refine At.thn (At.ret ?_); refine At.ibr ?_; refine At.thr ?_; refine At.resM (.inl rfl) rfl (RV.cell rfl rfl .z rfl rfl rfl RV.nil) ?_; refine At.drop .z (At.drop (.s (.s (.s (.s (.s (.s .z)))))) ?_); cases bret j; exact fun a w e hs => ⟨_, ⟨rfl, rfl⟩, hs⟩
             ··refine At.condF rfl (decide_eq_false a9) ?_
               refine sR 2 rfl (nT ?_); rcases bite j with ⟨b4, j⟩ | ⟨b4, j⟩
               ··refine At.condT rfl (decide_eq_true b4) ?_
                 refine At.seq ?_; refine At.held [pc X [i6 ((gt p a1).Kind), i6 ((gt p a1).A), i6 ((gt p a1).B), .string ⟨((gt p a1).Name).toArray⟩, i6 ((gt p a1).At)] 171, pc b0 [bp b0_0, .slice A0_1 p.length c0_1, .slice A0_2 u.length c0_2, .int .u64 G, .int .u64 I, .int .u64 J, .int .u64 L, .slice A0_7 D.length c0_7] 177, pc b0_0 [i6 O, .map (some b0_0_1), .map (some b0_0_2)] 91, mapo Fl.bs.ov Q0.fl.av b0_0_1 U, mapo Q7.fl.av Q0.fl.av b0_0_2 V, row (Fl.int .i64) 3 A0_2 u.length c0_2 u] 12 rfl ?_; refine At.H.pw 0 rfl rfl rfl rfl rfl (.c .z (.c (.s .z) (.c (.s .z) (.c (.s .z) (.c (.s .z) (.c (.s .z) .n)))))) ?_; refine At.H.pw 1 rfl rfl rfl rfl rfl (.c .z (.c (.s .z) (.c (.s .z) (.c (.s .z) (.c (.s .z) (.c (.s .z) .n)))))) ?_; refine At.H.pw 2 rfl rfl rfl rfl rfl (.c .z (.c (.s .z) (.c (.s .z) (.c (.s .z) (.c (.s .z) (.c (.s .z) .n)))))) ?_; refine At.H.tw 3 rfl (Y.load rfl rfl (.s .z) rfl rfl rfl) rfl rfl rfl (.c .z (.c (.s .z) (.c (.s .z) (.c (.s .z) (.c (.s .z) (.c (.s .z) .n)))))) ?_; refine At.H.pw 4 rfl rfl rfl rfl rfl (.c .z (.c (.s .z) (.c (.s .z) (.c (.s .z) (.c (.s .z) (.c (.s .z) .n)))))) ?_; refine At.H.pw 5 rfl rfl rfl rfl rfl (.c .z (.c (.s .z) (.c (.s .z) (.c (.s .z) (.c (.s .z) (.c (.s .z) .n)))))) ?_; refine At.H.tw 6 rfl (Y.load rfl rfl .z rfl rfl rfl) rfl rfl rfl (.c .z (.c (.s .z) (.c (.s .z) (.c (.s .z) (.c (.s .z) (.c (.s .z) .n)))))) ?_; refine At.H.pw 8 rfl rfl rfl rfl rfl (.c .z (.c (.s .z) (.c (.s .z) (.c (.s .z) (.c (.s .z) (.c (.s .z) .n)))))) ?_; refine At.H.tw 9 rfl (Y.load rfl rfl .z rfl rfl rfl) rfl rfl rfl (.c .z (.c (.s .z) (.c (.s .z) (.c (.s .z) (.c (.s .z) (.c (.s .z) .n)))))) ?_; refine At.H.al [7] (Q4 ?_ Q6)
                 ··refine At.HO.op rfl ?_
                   refine At.f7 (At.f7 (At.f7 (At.f7 (At.f7 (At.f7 ?_))))); obtain ⟨g6, e2, j⟩ := bbind j; refine At.call rfl Q13.callee rfl rfl rfl (ih_0 _ _ b0 b0_0 b0_0_1 b0_0_2 A0_1 p.length c0_1 A0_2 u.length c0_2 A0_7 D.length c0_7 O U V p u G I J L D ((gt p a1).A) hr0_1 rfl hc0_1 rfl rfl e2) ?_; rintro _ _ ⟨rfl, rfl⟩; refine At.HO.back (.c (.s (.s (.s (.s (.s (.s .z)))))) (.c .z (.c .z (.c .z (.c .z (.c .z .n)))))) ?_; refine At.H.al [10] (Q4 ?_ Q6)
                   ··refine At.HO.op rfl ?_
                     refine At.f3 (At.f3 (At.f3 ?_)); obtain ⟨g7, e3, j⟩ := bbind j; refine At.call rfl Q36.callee rfl rfl rfl (Q36.spec e3) ?_; rintro _ _ ⟨rfl, rfl⟩; refine At.HO.back (.c (.s (.s (.s (.s (.s (.s .z)))))) (.c (.s (.s (.s .z))) (.c .z (.c .z (.c .z (.c .z .n)))))) ?_; refine At.H.al [11] (Q4 ?_ Q6)
                     ··refine At.HO.op rfl ?_
                       refine At.store rfl rfl rfl rfl (.s (.s (.s (.s (.s (.s (.s .z))))))) rfl rfl rfl (.c (.c (.c (.c .n)))) ?_; refine At.HO.back (.c (.s (.s (.s (.s (.s (.s (.s .z))))))) (.c (.s (.s (.s (.s .z)))) (.c (.s .z) (.c (.s .z) (.c (.s .z) (.c (.s .z) .n)))))) ?_; refine At.H.done (by kernel_rfl) ?_; refine At.thn (At.ret ?_); refine At.ibr ?_; refine At.thr ?_; refine At.resM (.inl rfl) rfl (RV.cell rfl rfl .z rfl rfl rfl RV.nil) ?_; refine At.drop .z (At.drop (.s (.s (.s (.s (.s (.s .z)))))) (At.f5 (At.f5 (At.f4 (At.f4 (At.f4 (At.f5 ?_))))))); cases bret j; exact fun a w e hs => ⟨_, ⟨rfl, rfl⟩, hs⟩
               ··refine At.condF rfl (decide_eq_false b4) ?_
                 refine sR 2 rfl (nT ?_); rcases bite j with ⟨b5, j⟩ | ⟨b5, j⟩
                 ··refine At.condT rfl (decide_eq_true b5) ?_
                   refine At.seq ?_; refine At.held [pc X [i6 ((gt p a1).Kind), i6 ((gt p a1).A), i6 ((gt p a1).B), .string ⟨((gt p a1).Name).toArray⟩, i6 ((gt p a1).At)] 171, pc b0 [bp b0_0, .slice A0_1 p.length c0_1, .slice A0_2 u.length c0_2, .int .u64 G, .int .u64 I, .int .u64 J, .int .u64 L, .slice A0_7 D.length c0_7] 177, pc b0_0 [i6 O, .map (some b0_0_1), .map (some b0_0_2)] 91, mapo Fl.bs.ov Q0.fl.av b0_0_1 U, mapo Q7.fl.av Q0.fl.av b0_0_2 V, row (Fl.int .i64) 3 A0_2 u.length c0_2 u] 16 rfl ?_; refine At.H.pw 0 rfl rfl rfl rfl rfl (.c .z (.c (.s .z) (.c (.s .z) (.c (.s .z) (.c (.s .z) (.c (.s .z) .n)))))) ?_; refine At.H.pw 1 rfl rfl rfl rfl rfl (.c .z (.c (.s .z) (.c (.s .z) (.c (.s .z) (.c (.s .z) (.c (.s .z) .n)))))) ?_; refine At.H.pw 2 rfl rfl rfl rfl rfl (.c .z (.c (.s .z) (.c (.s .z) (.c (.s .z) (.c (.s .z) (.c (.s .z) .n)))))) ?_; refine At.H.pw 3 rfl rfl rfl rfl rfl (.c .z (.c (.s .z) (.c (.s .z) (.c (.s .z) (.c (.s .z) (.c (.s .z) .n)))))) ?_; refine At.H.tw 4 rfl (Y.load rfl rfl (.s .z) rfl rfl rfl) rfl rfl rfl (.c .z (.c (.s .z) (.c (.s .z) (.c (.s .z) (.c (.s .z) (.c (.s .z) .n)))))) ?_; refine At.H.pw 5 rfl rfl rfl rfl rfl (.c .z (.c (.s .z) (.c (.s .z) (.c (.s .z) (.c (.s .z) (.c (.s .z) .n)))))) ?_; refine At.H.pw 6 rfl rfl rfl rfl rfl (.c .z (.c (.s .z) (.c (.s .z) (.c (.s .z) (.c (.s .z) (.c (.s .z) .n)))))) ?_; refine At.H.pw 7 rfl rfl rfl rfl rfl (.c .z (.c (.s .z) (.c (.s .z) (.c (.s .z) (.c (.s .z) (.c (.s .z) .n)))))) ?_; refine At.H.tw 8 rfl (Y.load rfl rfl .z rfl rfl rfl) rfl rfl rfl (.c .z (.c (.s .z) (.c (.s .z) (.c (.s .z) (.c (.s .z) (.c (.s .z) .n)))))) ?_; refine At.H.pw 11 rfl rfl rfl rfl rfl (.c .z (.c (.s .z) (.c (.s .z) (.c (.s .z) (.c (.s .z) (.c (.s .z) .n)))))) ?_; refine At.H.tw 12 rfl (Y.load rfl rfl .z rfl rfl rfl) rfl rfl rfl (.c .z (.c (.s .z) (.c (.s .z) (.c (.s .z) (.c (.s .z) (.c (.s .z) .n)))))) ?_; refine At.H.al [9] (Q4 ?_ Q6)
                   ··refine At.HO.op rfl ?_
                     refine At.f7 (At.f7 (At.f7 (At.f7 (At.f7 (At.f7 ?_))))); obtain ⟨g8, e4, j⟩ := bbind j; refine At.call rfl Q13.callee rfl rfl rfl (ih_0 _ _ b0 b0_0 b0_0_1 b0_0_2 A0_1 p.length c0_1 A0_2 u.length c0_2 A0_7 D.length c0_7 O U V p u G I J L D ((gt p a1).A) hr0_1 rfl hc0_1 rfl rfl e4) ?_; rintro _ _ ⟨rfl, rfl⟩; refine At.HO.back (.c (.s (.s (.s (.s (.s (.s .z)))))) (.c .z (.c .z (.c .z (.c .z (.c .z .n)))))) ?_; refine At.H.al [10] (Q4 ?_ Q6)
                     ··refine At.HO.op rfl ?_
                       refine At.rowLen (.s (.s (.s (.s (.s .z))))) fun e5 => ?_; obtain ⟨g9, e6, j⟩ := bbind j; refine At.call rfl Q66.callee rfl rfl rfl (Q66.spec hr0_1 rfl hc0_1 rfl e5 e6) ?_; rintro _ _ ⟨rfl, rfl⟩; refine At.HO.back (.c (.s (.s (.s (.s (.s (.s .z)))))) (.c .z (.c .z (.c .z (.c .z (.c .z .n)))))) ?_; refine At.H.al [13] (Q4 ?_ Q6)
                       ··refine At.HO.op rfl ?_
                         refine At.f3 (At.f3 (At.f3 ?_)); obtain ⟨h0, e7, j⟩ := bbind j; refine At.call rfl Q36.callee rfl rfl rfl (Q36.spec e7) ?_; rintro _ _ ⟨rfl, rfl⟩; refine At.HO.back (.c (.s (.s (.s (.s (.s (.s .z)))))) (.c (.s (.s (.s .z))) (.c .z (.c .z (.c .z (.c .z .n)))))) ?_; refine At.H.al [14] (Q4 ?_ Q6)
                         ··refine At.HO.op rfl ?_
                           refine At.rowLen (.s (.s (.s (.s (.s .z))))) fun e8 => ?_; refine At.f5 (At.f5 (At.f4 (At.f4 (At.f4 (At.f5 ?_))))); obtain ⟨h1, e9, j⟩ := bbind j; refine At.call rfl Q66.callee rfl rfl rfl (Q66.spec hr0_1 rfl hc0_1 rfl e8 e9) ?_; rintro _ _ ⟨rfl, rfl⟩; refine At.HO.back (.c (.s (.s (.s (.s (.s (.s .z)))))) (.c .z (.c .z (.c .z (.c .z (.c .z .n)))))) ?_; refine At.H.al [15] (Q4 ?_ Q6)
                           ··refine At.HO.op rfl ?_
                             refine At.store rfl rfl rfl rfl (.s (.s (.s (.s (.s (.s (.s .z))))))) rfl rfl rfl (.c (.c (.c (.c .n)))) ?_; refine At.HO.back (.c (.s (.s (.s (.s (.s (.s (.s .z))))))) (.c (.s .z) (.c (.s .z) (.c (.s .z) (.c (.s .z) (.c (.s .z) .n)))))) ?_; refine At.H.done (by kernel_rfl) ?_; refine At.thn (At.ret ?_); refine At.ibr ?_; refine At.thr ?_; refine At.resM (.inl rfl) rfl (RV.cell rfl rfl .z rfl rfl rfl RV.nil) ?_; refine At.drop .z (At.drop (.s (.s (.s (.s (.s (.s .z)))))) ?_); cases bret j; exact fun a w e hs => ⟨_, ⟨rfl, rfl⟩, hs⟩
                 ··refine At.condF rfl (decide_eq_false b5) ?_
                   refine sR 2 rfl (nT ?_); rcases bite j with ⟨b6, j⟩ | ⟨b6, j⟩
                   ··refine At.condT rfl (decide_eq_true b6) ?_
                     refine sR 2 rfl ?_; refine At.y (Y.buildA (is := []) (xo := []) (vs := []) (cs := [.int .u64 0, .int .u64 0, .int .u64 0, .int .u64 0]) rfl rfl rfl rfl rfl rfl) rfl rfl rfl ?_; refine At.f7 (At.f7 (At.f7 (At.f7 (At.f7 (At.f7 ?_))))); obtain ⟨h2, f0, j⟩ := bbind j; refine At.call rfl Q22.callee rfl rfl rfl (ih_1 _ _ b0 b0_0 b0_0_1 b0_0_2 A0_1 p.length c0_1 A0_2 u.length c0_2 A0_7 D.length c0_7 O U V p u G I J L D a1 0 0 0 0 hr0_1 rfl hc0_1 rfl rfl f0) ?_; rintro _ _ ⟨rfl, rfl⟩; refine At.store rfl rfl rfl rfl (.s (.s (.s (.s (.s (.s (.s .z))))))) rfl rfl rfl (.c (.c (.c (.c .n)))) ?_; refine nT (At.ret ?_); refine At.ibr ?_; refine At.thr ?_; refine At.resM (.inl rfl) rfl (RV.cell rfl rfl .z rfl rfl rfl RV.nil) ?_; refine At.drop .z (At.drop (.s (.s (.s (.s (.s (.s .z)))))) ?_); cases bret j; exact fun a w e hs => ⟨_, ⟨rfl, rfl⟩, hs⟩
                   ··refine At.condF rfl (decide_eq_false b6) ?_
                     refine sR 2 rfl (nT ?_); rcases bite j with ⟨b7, j⟩ | ⟨b7, j⟩
                     ··refine At.condT rfl (decide_eq_true b7) ?_
                       refine sR 5 rfl (At.y (Y.load rfl rfl (.s (.s .z)) rfl rfl rfl) rfl rfl rfl (At.f7 (At.f7 (At.f7 (At.f7 ?_))))); refine At.f7 (At.f7 ?_); obtain ⟨h3, f1, j⟩ := bbind j; refine At.call rfl Q22.callee rfl rfl rfl (ih_1 _ _ b0 b0_0 b0_0_1 b0_0_2 A0_1 p.length c0_1 A0_2 u.length c0_2 A0_7 D.length c0_7 O U V p u G I J L D a1 G I J L hr0_1 rfl hc0_1 rfl rfl f1) ?_; rintro _ _ ⟨rfl, rfl⟩; refine At.store rfl rfl rfl rfl (.s (.s (.s (.s (.s (.s (.s .z))))))) rfl rfl rfl (.c (.c (.c (.c .n)))) ?_; refine nT (At.ret ?_); refine At.ibr ?_; refine At.thr ?_; refine At.resM (.inl rfl) rfl (RV.cell rfl rfl .z rfl rfl rfl RV.nil) ?_; refine At.drop .z (At.drop (.s (.s (.s (.s (.s (.s .z)))))) ?_); cases bret j; exact fun a w e hs => ⟨_, ⟨rfl, rfl⟩, hs⟩
                     ··refine At.condF rfl (decide_eq_false b7) ?_
                       refine At.skip ?_; refine At.ibn ?_; refine At.thn (At.seq (At.region ?_)); refine At.y (Y.buildA (is := []) (xo := []) (vs := []) (cs := [.int .u64 0, .int .u64 0, .int .u64 0, .int .u64 0]) rfl rfl rfl rfl rfl rfl) rfl rfl rfl ?_; refine At.store rfl rfl rfl rfl (.s .z) rfl rfl rfl (.c (.c (.c (.c .n)))) ?_; refine nT (At.ret ?_); refine At.resM (.inl rfl) rfl (RV.cell rfl rfl .z rfl rfl rfl RV.nil) ?_; refine At.drop .z (At.drop .z ?_); cases bret j; exact fun a w e hs => ⟨_, ⟨rfl, rfl⟩, hs⟩
theorem Q22.step (self_0 : Int → (List (Bs × Q0)) → (List (Q7 × Q0)) → (List Q9) → (List Int) → Int → Int → Int → Int → (List Q0) → Int → Option ((List Q0) × Int × Int × Int × Int)) (self_1 : Int → (List (Bs × Q0)) → (List (Q7 × Q0)) → (List Q9) → (List Int) → Int → Int → Int → Int → (List Q0) → Int → Int → Int → Int → Int → Option ((List Q0) × Int × Int × Int × Int)) (ih_0 : Q13.SP self_0) (ih_1 : Q22.SP self_1) :
 Q22.SP (Q22.g self_0 self_1) := by
 intro R Fr b0 b0_0 b0_0_1 b0_0_2 A0_1 n0_1 c0_1 A0_2 n0_2 c0_2 A0_7 n0_7 c0_7 O U V I D Z a0 a2 a3 a4 a1 a5 a6 a7 a8 hr0_1 hn0_1 hc0_1 hn0_2 hn0_7 r j; subst hn0_1; subst hn0_2; subst hn0_7; refine Spec.of Tryz.func120 rfl rfl ?_; unfold Q22.g at j; have j := brun j; refine At.seq (At.region ?_); refine At.box rfl rfl (cs := [.int .u64 a5, .int .u64 a6, .int .u64 a7, .int .u64 a8]) rfl rfl (fun b8 => ?_); refine At.alloc rfl rfl rfl (fun b6 => ?_); refine nT (At.seq ?_); refine At.still 7 (by kernel_rfl) ?_; refine At.Still.run 3 rfl ?_; refine At.Still.y (Y.load rfl rfl (.s (.s .z)) rfl rfl rfl) rfl rfl rfl ?_; refine At.Still.run 1 rfl ?_; refine At.Still.y (Y.load rfl rfl (.s .z) rfl rfl rfl) rfl rfl rfl ?_; obtain ⟨u, j⟩ := bnone j; refine At.Still.y (Y.ix (.s (.s (.s (.s (.s (.s (.s .z))))))) rfl rfl rfl rfl rfl rfl u.1 u.2) rfl rfl rfl ?_; refine At.Still.nil ?_; refine At.st rfl (.s (.s (.s (.s (.s (.s (.s .z))))))) (q := 0) (z := (⟨a5, a6, a7, a8⟩ : Q0)) rfl rfl rfl u.1 u.2 rfl rfl (.c (.c (.c (.c .n)))) ?_; refine nT ?_; refine At.block ?_; obtain ⟨d3, d4, b9, j⟩ := bjoin j; obtain ⟨b7, a9, c8⟩ := bsome j; clear j; unfold Q22.l0 at a9; obtain ⟨b4, L⟩ := Q16.1 a9; clear a9; let T6 : HProp := pt b6 (.cells ([.int .u64 0, .int .u64 0, .int .u64 0, .int .u64 0] : List Value).toArray 43); let T7 : HProp := pc b8 [.int .u64 a5, .int .u64 a6, .int .u64 a7, .int .u64 a8] 43; let T8 : HProp := pc b0 [bp b0_0, .slice A0_1 I.length c0_1, .slice A0_2 D.length c0_2, .int .u64 Z, .int .u64 a0, .int .u64 a2, .int .u64 a3, .slice A0_7 a4.length c0_7] 177; let T9 : HProp := pc b0_0 [i6 O, .map (some b0_0_1), .map (some b0_0_2)] 91; refine At.loop (X := (List Q0)) (fun G => [(0, bp b0), (1, i6 a1), (6, bp b6)]) (fun G => row Q0.fl 43 A0_7 a4.length c0_7 G :: T6 :: T7 :: T8 :: T9 :: mapo Fl.bs.ov Q0.fl.av b0_0_1 U :: mapo Q7.fl.av Q0.fl.av b0_0_2 V :: row (Fl.int .i64) 3 A0_2 D.length c0_2 D :: Fr) (fun m_ => fun G => iterN (fun t_ : (List Q0) => Q22.l0b O U V I D Z a0 a2 a3 a1 self_0 t_) m_ G = some b7) b4 (st a4 a1 (⟨a5, a6, a7, a8⟩ : Q0)) L (fun a w e hs => ⟨e.sub ⟨rfl, rfl, rfl, trivial⟩, (by exact hs)⟩) ?_
 ·clear L b4; rintro b4 G L; obtain ⟨c9, f_, d0, hf_, j⟩ := bit L; clear L; have j : (Q22.l0b O U V I D Z a0 a2 a3 a1 self_0 G).bind _ = some b7 := j; unfold Q22.l0b at j
  ·refine At.block ?_; refine sR 4 rfl (At.y (Y.load rfl rfl (.s (.s (.s .z))) rfl rfl rfl) rfl rfl rfl (At.run 1 rfl ?_)); obtain ⟨J, j⟩ := bnone j; refine At.y (Y.ixRd hr0_1 rfl rfl rfl rfl rfl rfl rfl J.1 J.2) rfl rfl rfl ?_; refine At.y (Y.fa (RdS.some_ hr0_1 rfl J.1 J.2) rfl rfl rfl rfl rfl rfl) rfl rfl rfl ?_; refine At.y (Y.ldFl hr0_1 rfl (q := 1) rfl rfl J.1 J.2 rfl rfl rfl) rfl rfl rfl ?_; refine At.rowLen .z fun d1 => ?_; refine At.f7 (At.f7 (At.f7 (At.f7 (At.f7 ?_)))); obtain ⟨p, d2, j⟩ := bbind j; refine At.call rfl Q13.callee rfl rfl rfl (ih_0 _ _ b0 b0_0 b0_0_1 b0_0_2 A0_1 I.length c0_1 A0_2 D.length c0_2 A0_7 a4.length c0_7 O U V I D Z a0 a2 a3 G ((gt I a1).A) hr0_1 rfl hc0_1 rfl d1 d2) ?_; rintro _ _ ⟨rfl, rfl⟩; refine At.alloc rfl rfl rfl (fun d5 => ?_); refine At.store rfl rfl rfl rfl .z rfl rfl rfl (.c (.c (.c (.c .n)))) ?_; refine nT (At.seq (At.seq ?_)); refine At.quiet (by kernel_rfl) ?_; refine At.Quiet.y (Y.load rfl rfl .z rfl rfl rfl) rfl rfl rfl ?_; refine At.Quiet.run 3 rfl ?_; refine At.Quiet.y (Y.load rfl rfl (.s .z) rfl rfl rfl) rfl rfl rfl ?_; refine At.Quiet.run 1 rfl ?_; refine At.Quiet.y (Y.ix (.s (.s (.s (.s (.s (.s .z)))))) rfl rfl rfl rfl rfl rfl u.1 u.2) rfl rfl rfl ?_; refine At.Quiet.y (Y.ld (.s (.s (.s (.s (.s (.s .z)))))) (q := 0) rfl rfl u.1 u.2 rfl rfl rfl) rfl rfl rfl ?_; refine At.Quiet.y (Y.eqAr (xs := [.int .u64 p.2.1, .int .u64 p.2.2.1, .int .u64 p.2.2.2.1, .int .u64 p.2.2.2.2]) (ys := [.int .u64 ((gt p.1 a1).c0), .int .u64 ((gt p.1 a1).c1), .int .u64 ((gt p.1 a1).c2), .int .u64 ((gt p.1 a1).c3)]) rfl rfl rfl rfl rfl rfl rfl (by kernel_rfl) rfl) rfl rfl rfl ?_; refine At.Quiet.nil (At.thn ?_); rcases bite j with ⟨b5, j⟩ | ⟨b5, j⟩
   ··refine At.condT rfl b5 ?_
     refine At.seq (At.region (At.y (Y.load rfl rfl .z rfl rfl rfl) rfl rfl rfl ?_)); refine At.store rfl rfl rfl rfl (.s (.s (.s (.s (.s (.s (.s .z))))))) rfl rfl rfl (.c (.c (.c (.c .n)))) ?_; refine nT (At.ret (At.thr ?_)); refine At.ibr ?_; have j := bupL b9 c8 j; refine At.thr ?_; refine At.ibr ?_; refine At.resM (.inl rfl) rfl (RV.cell rfl rfl .z rfl rfl rfl RV.nil) ?_; refine At.drop .z (At.drop .z (At.drop (.s (.s (.s (.s (.s (.s .z)))))) ?_)); cases bret j; exact fun a w e hs => ⟨_, ⟨rfl, rfl⟩, hs⟩
   ··refine At.condF rfl (bn b5) ?_
     refine At.skip (At.thn ?_); refine At.still 7 (by kernel_rfl) ?_; refine At.Still.run 3 rfl ?_; refine At.Still.y (Y.load rfl rfl (.s .z) rfl rfl rfl) rfl rfl rfl ?_; refine At.Still.run 1 rfl ?_; refine At.Still.y (Y.load rfl rfl .z rfl rfl rfl) rfl rfl rfl ?_; refine At.Still.y (Y.ix (.s (.s (.s (.s (.s (.s .z)))))) rfl rfl rfl rfl rfl rfl u.1 u.2) rfl rfl rfl ?_; refine At.Still.nil ?_; refine At.st rfl (.s (.s (.s (.s (.s (.s .z)))))) (q := 0) (z := (⟨p.2.1, p.2.2.1, p.2.2.2.1, p.2.2.2.2⟩ : Q0)) rfl rfl rfl u.1 u.2 rfl rfl (.c (.c (.c (.c .n)))) ?_; refine At.nil ?_; refine At.ibn ?_; refine At.drop (.s .z) (At.f5 (At.f5 (At.f5 (At.f5 (At.f5 (At.f7 (At.f7 ?_))))))); refine At.f7 ?_; have j := bnx hf_ j; exact fun a w e hs => ⟨c9, (st p.1 a1 (⟨p.2.1, p.2.2.1, p.2.2.2.1, p.2.2.2.2⟩ : Q0)), d0, j, e.sub ⟨rfl, rfl, rfl, trivial⟩, hs⟩
theorem Q13.all : ∀ k_ : Nat, Q13.SP (Q13.n k_) ∧ Q22.SP (Q22.n k_)
 | 0 => ⟨(by intro R Fr b0 b0_0 b0_0_1 b0_0_2 A0_1 n0_1 c0_1 A0_2 n0_2 c0_2 A0_7 n0_7 c0_7 a0_0_0 a0_0_1 a0_0_2 a0_1 a0_2 a0_3 a0_4 a0_5 a0_6 a0_7 a1 hr0_1 hn0_1 hc0_1 hn0_2 hn0_7 r j; cases j), (by intro R Fr b0 b0_0 b0_0_1 b0_0_2 A0_1 n0_1 c0_1 A0_2 n0_2 c0_2 A0_7 n0_7 c0_7 a0_0_0 a0_0_1 a0_0_2 a0_1 a0_2 a0_3 a0_4 a0_5 a0_6 a0_7 a1 a2_0 a2_1 a2_2 a2_3 hr0_1 hn0_1 hc0_1 hn0_2 hn0_7 r j; cases j)⟩
 | k_ + 1 => ⟨Q13.step (Q13.n k_) (Q22.n k_) ((Q13.all k_).1) ((Q13.all k_).2), Q22.step (Q13.n k_) (Q22.n k_) ((Q13.all k_).1) ((Q13.all k_).2)⟩
theorem Q13.spec {q u D G I a1 : Int} {J : List (Bs × Q0)} {L : List (Q7 × Q0)} {O : List Q9} {p : List Int} {U : List Q0} (hr0_1 : RdS Q9.fl.rep R.heap A0_1 O) (hn0_1 : O.length = n0_1) (hc0_1 : n0_1 ≤ c0_1) (hn0_2 : p.length = n0_2) (hn0_7 : U.length = n0_7) {r : (List Q0) × Int × Int × Int × Int} (j : Q13.f q J L O p u D G I U a1 = some r) :
 Spec Tryz.prog 79 [bp b0, i6 a1] R (pc b0 [bp b0_0, .slice A0_1 n0_1 c0_1, .slice A0_2 n0_2 c0_2, .int .u64 u, .int .u64 D, .int .u64 G, .int .u64 I, .slice A0_7 n0_7 c0_7] 177 :: pc b0_0 [i6 q, .map (some b0_0_1), .map (some b0_0_2)] 91 :: mapo Fl.bs.ov Q0.fl.av b0_0_1 J :: mapo Q7.fl.av Q0.fl.av b0_0_2 L :: row (Fl.int .i64) 3 A0_2 n0_2 c0_2 p :: row Q0.fl 43 A0_7 n0_7 c0_7 U :: Fr) (fun v l' => v = .agg #[.int .u64 r.2.1, .int .u64 r.2.2.1, .int .u64 r.2.2.2.1, .int .u64 r.2.2.2.2] ∧ pc b0 [bp b0_0, .slice A0_1 n0_1 c0_1, .slice A0_2 n0_2 c0_2, .int .u64 u, .int .u64 D, .int .u64 G, .int .u64 I, .slice A0_7 n0_7 c0_7] 177 :: pc b0_0 [i6 q, .map (some b0_0_1), .map (some b0_0_2)] 91 :: mapo Fl.bs.ov Q0.fl.av b0_0_1 J :: mapo Q7.fl.av Q0.fl.av b0_0_2 L :: row (Fl.int .i64) 3 A0_2 n0_2 c0_2 p :: row Q0.fl 43 A0_7 n0_7 c0_7 r.1 :: Fr = l') := by
 obtain ⟨k_, hk_⟩ := Q294 j; exact (Q13.all k_).1 R Fr b0 b0_0 b0_0_1 b0_0_2 A0_1 n0_1 c0_1 A0_2 n0_2 c0_2 A0_7 n0_7 c0_7 q J L O p u D G I U a1 hr0_1 hn0_1 hc0_1 hn0_2 hn0_7 hk_

/- told with Q13.f -/

noncomputable def Q86.f (u : Int) (D : List (Bs × Q0)) (G : List (Q7 × Q0)) (a1 : List Q9) : Option (Int × Int × Int × Int × Int) :=
 (Q52.f u D G a1).bind fun p =>
  match p with
  | .inl p =>
   some (1, 0, 0, 0, 0)
  | .inr p =>
   (Q13.f u D G a1 p.1 p.2.1 p.2.2.1 p.2.2.2.1 p.2.2.2.2 (List.replicate (a1.length : Int).toNat ((⟨0, 0, 0, 0⟩ : Q0) : Q0)) (IntKind.i64.wrap ((a1.length : Int) - 1))).bind fun q =>
    some (0, q.2.1, q.2.2.1, q.2.2.2.1, q.2.2.2.2)
theorem Q86.callee : Callee Tryz.prog 32 := ⟨_, Tryz.func32, by kernel_rfl, by kernel_rfl⟩
theorem Q86.spec {p : Int} {q : List (Bs × Q0)} {u : List (Q7 × Q0)} {a1 : List Q9} (hr1 : RdS Q9.fl.rep R.heap A1 a1) (hn1 : a1.length = n1) (hc1 : n1 ≤ c1) {r : Int × Int × Int × Int × Int} (j : Q86.f p q u a1 = some r) :
 Spec Tryz.prog 32 [bp b0, .slice A1 n1 c1] R (pc b0 [i6 p, .map (some b0_1), .map (some b0_2)] 91 :: mapo Fl.bs.ov Q0.fl.av b0_1 q :: mapo Q7.fl.av Q0.fl.av b0_2 u :: Fr) (fun v l' => v = .tuple #[.agg #[.int .u64 r.2.1, .int .u64 r.2.2.1, .int .u64 r.2.2.2.1, .int .u64 r.2.2.2.2], i6 r.1] ∧ pc b0 [i6 p, .map (some b0_1), .map (some b0_2)] 91 :: mapo Fl.bs.ov Q0.fl.av b0_1 q :: mapo Q7.fl.av Q0.fl.av b0_2 u :: Fr = l') := by
 subst hn1; refine Spec.of Tryz.func32 rfl rfl ?_; unfold Q86.f at j; have j := brun j; refine At.seq (At.region ?_); refine At.alloc rfl rfl rfl (fun J => ?_); refine At.run 1 rfl (nT (sR 2 rfl (At.f3 (At.f3 ?_)))); refine At.f3 ?_; obtain ⟨D, G, j⟩ := bbind j; refine At.call rfl Q52.callee rfl rfl rfl (Q52.spec hr1 rfl hc1 G) ?_; rcases D with D | D
 ·rintro _ _ ⟨rfl, rfl⟩; refine At.run 5 rfl (nT (At.seq (sR 2 rfl (At.nil ?_)))); refine At.thn ?_; refine At.condT rfl rfl ?_; refine At.seq (At.region ?_); refine At.y (Y.buildA (is := []) (xo := []) (vs := []) (cs := [.int .u64 0, .int .u64 0, .int .u64 0, .int .u64 0]) rfl rfl rfl rfl rfl rfl) rfl rfl rfl ?_; refine At.run 1 rfl ?_; refine At.store rfl rfl rfl rfl (.s (.s (.s .z))) rfl rfl rfl (.c (.c (.c (.c .n)))) ?_; refine At.run 1 rfl (nT (At.ret (At.thr ?_))); refine At.resM (.inl rfl) rfl (RV.cell rfl rfl .z rfl rfl rfl (RV.tmp rfl RV.nil)) ?_; refine At.drop .z ?_; cases bret j; exact fun a w e hs => ⟨_, ⟨rfl, rfl⟩, hs⟩
 ·rintro _ _ ⟨L, O, U, V, X, Z, rfl, rfl, rfl⟩; refine At.run 5 rfl (nT (At.seq (sR 2 rfl (At.nil ?_)))); refine At.thn ?_; refine At.condF rfl rfl ?_; refine At.skip (At.thn (sR 4 rfl (At.f2 (At.f2 (At.f5 ?_))))); refine At.f5 (At.f5 (At.f5 ?_)); obtain ⟨a0, I, j⟩ := bbind j; refine At.call rfl Q13.callee rfl rfl rfl (Q13.spec hr1 rfl hc1 rfl rfl I) ?_; rintro _ _ ⟨rfl, rfl⟩; refine At.store rfl rfl rfl rfl (.s (.s (.s (.s (.s (.s .z)))))) rfl rfl rfl (.c (.c (.c (.c .n)))) ?_; refine At.run 1 rfl (nT (At.ret ?_)); refine At.resM (.inl rfl) rfl (RV.cell rfl rfl .z rfl rfl rfl (RV.tmp rfl RV.nil)) ?_; refine At.drop .z (At.drop .z (At.drop (.s (.s (.s .z))) (At.drop (.s (.s (.s .z))) ?_))); cases bret j; exact fun a w e hs => ⟨_, ⟨rfl, rfl⟩, hs⟩

noncomputable def Q67.l0b (D : (List Q2) × (List Q1) × (List Bs) × (List Int) × Int) (q : Int × Int × Int × Int × Int) (u : Int × Int × Int × Int × Int) (p : Int) : Option ((Int) ⊕ ((Unit) ⊕ (Bool))) :=
 if p < (D.2.2.2.1.length : Int) then
 (Q72.f q.2.1 q.2.2.1 q.2.2.2.1 q.2.2.2.2 p).bind fun G =>
 if (0 : Int) ≤ p ∧ p < (D.2.2.2.1.length : Int) then
 (Q72.f u.2.1 u.2.2.1 u.2.2.2.1 u.2.2.2.2 (gt D.2.2.2.1 p)).bind fun I =>
 if (G == I) = true then
 nx (IntKind.i64.wrap (p + 1))
 else
 upL (some false)
 else none
 else
 dn (.inl ())
noncomputable def Q67.l0 (p : (List Q2) × (List Q1) × (List Bs) × (List Int) × Int) (q : Int × Int × Int × Int × Int) (u : Int × Int × Int × Int × Int) (D : Int) : Option ((Unit) ⊕ (Bool)) := iter (fun t_ : Int => Q67.l0b p q u t_) D
noncomputable def Q67.f (D : Int) (G : List Bs) (I : List Q1) (J : List Q2) (a1 : List Q9) : Option Bool :=
 (Q85.f ).bind fun L =>
 (Q17.f D G I J).bind fun q =>
 jn (
 if L = true then
 some (.inl q.isNone)
 else
 some (.inl true)) (fun (V : Bool) =>
 if V = true then
 some L
 else
 (Q15.f D G I J).bind fun p =>
 (Q17.f p.2.2.2.2 p.2.2.1 p.2.1 p.1).bind fun u =>
 jn (
 if u.isNone = true then
 some (.inl true)
 else
 some (.inl (!(decide ((p.2.2.2.1.length : Int) = D))))) (fun (X : Bool) =>
 if X = true then
 some false
 else
 if q.isNone = false then
 (Q86.f ((q.getD default).states) ((q.getD default).holds) ((q.getD default).next) a1).bind fun O =>
 if u.isNone = false then
 (Q86.f ((u.getD default).states) ((u.getD default).holds) ((u.getD default).next) a1).bind fun U =>
 jn (Q67.l0 p O U 0) (fun (_ : Unit) =>
 some (decide (O.1 = U.1)))
 else none
 else none))
theorem Q67.spec (R : Res) (Fr : List HProp) (A0_1 : Option Addr) (n0_1 : Nat) (c0_1 : Nat) (A0_2 : Option Addr) (n0_2 : Nat) (c0_2 : Nat) (A0_3 : Option Addr) (n0_3 : Nat) (c0_3 : Nat) (A1 : Option Addr) (n1 : Nat) (c1 : Nat) (L : Int) (O : List Bs) (V : List Q1) (Z : List Q2) (a1 : List Q9) (hr0_1 : RdS Fl.bs.rep R.heap A0_1 O) (hn0_1 : O.length = n0_1) (hc0_1 : n0_1 ≤ c0_1) (hr0_2 : RdS Q1.fl.rep R.heap A0_2 V) (hn0_2 : V.length = n0_2) (hc0_2 : n0_2 ≤ c0_2) (hr0_3 : RdS Q2.rep R.heap A0_3 Z) (hn0_3 : Z.length = n0_3) (hc0_3 : n0_3 ≤ c0_3) (hr1 : RdS Q9.fl.rep R.heap A1 a1) (hn1 : a1.length = n1) (hc1 : n1 ≤ c1) (hg0 : RdS (Fl.int .u8).rep R.heap (some ⟨0, 0, none⟩) Tryz.gtab0) {r : Bool} (j : Q67.f L O V Z a1 = some r) :
 Spec Tryz.prog 11 [.agg #[i6 L, .slice A0_1 n0_1 c0_1, .slice A0_2 n0_2 c0_2, .slice A0_3 n0_3 c0_3], .slice A1 n1 c1] R (Fr) (fun v l' => v = .bool r ∧ Fr = l') := by
 subst hn0_1; subst hn0_2; subst hn0_3; subst hn1; refine Spec.of Tryz.func11 rfl rfl ?_; unfold Q67.f at j; have j := brun j; refine At.seq (At.region ?_); refine At.box rfl rfl (cs := [i6 L, .slice A0_1 O.length c0_1, .slice A0_2 V.length c0_2, .slice A0_3 Z.length c0_3]) rfl rfl (fun d6 => ?_); refine At.run 1 rfl (nT (At.seq (At.region ?_))); obtain ⟨g0, g1, j⟩ := bbind j; refine At.call rfl Q85.callee rfl rfl rfl (Q85.spec hg0 g1) ?_; rintro _ _ ⟨rfl, rfl⟩; refine At.run 1 rfl (nT (At.seq (At.region (At.y (Y.load rfl rfl .z rfl rfl rfl) rfl rfl rfl ?_)))); obtain ⟨p, g2, j⟩ := bbind j; refine At.call rfl Q17.callee rfl rfl rfl (Q17.spec hr0_1 rfl hc0_1 hr0_2 rfl hc0_2 hr0_3 rfl hc0_3 g2) ?_; rintro _ _ ⟨a4, rfl, rfl⟩; refine At.run 1 rfl (nT (At.seq (sR 3 rfl ?_))); obtain ⟨g3, g4, n2, j⟩ := bjoin j; let a5 : HProp := pc d6 [i6 L, .slice A0_1 O.length c0_1, .slice A0_2 V.length c0_2, .slice A0_3 Z.length c0_3] 26; refine At.joinO 3 (X := Bool) (fun a0 => [(1, .slice A1 a1.length c1), (2, bp d6), (5, .bool g0), (6, optp a4), (23, .bool a0)]) (fun a0 => optb Q3.ow 91 a4 p :: a5 :: Fr) (fun a0 => g3 (.inl a0) = some r) ?_ (fun d7 => ?_)
 ·rintro a0 j; have j := (g4 _).symm.trans j
  ·refine nT ?_; rcases bite j with ⟨a8, j⟩ | ⟨a8, j⟩
   ··refine At.condT rfl a8 ?_
     refine sR 2 rfl (nT (At.ret (At.thr (At.drop .z ?_)))); refine At.drop .z ?_; cases bret j; exact At.res (.inl rfl) rfl rfl ⟨rfl, rfl⟩
   ··refine At.condF rfl (bn a8) ?_
     refine At.skip (At.thn (At.seq (At.region (At.y (Y.load rfl rfl (.s .z) rfl rfl rfl) rfl rfl rfl ?_)))); obtain ⟨D, g5, j⟩ := bbind j; refine At.call rfl Q15.callee rfl rfl rfl (Q15.spec hr0_1 rfl hc0_1 hr0_2 rfl hc0_2 hr0_3 rfl hc0_3 hg0 g5) ?_; rintro _ _ ⟨n3, g6, g7, n4, g8, g9, n5, h0, h1, n6, a9, b4, rfl, rfl, rfl, rfl, rfl, rfl⟩; refine At.run 3 rfl ?_; refine At.alloc rfl rfl rfl (fun h2 => ?_); refine At.store rfl rfl rfl rfl .z rfl rfl rfl (.c (.c (.c (.c .n)))) ?_; refine At.run 1 rfl (nT (At.seq (At.region (At.y (Y.load rfl rfl .z rfl rfl rfl) rfl rfl rfl ?_)))); refine At.freeze (.s .z) fun n7 h3 h4 h5 d8 b5 => ?_; refine At.freeze (.s .z) fun n8 h6 h7 h8 b6 b7 => ?_; refine At.freezeGrow (.s .z) fun n9 h9 k0 k1 a6 b8 => ?_; obtain ⟨u, k2, j⟩ := bbind j; refine At.call rfl Q17.callee rfl rfl rfl (Q17.spec (RdS.mono (b6.trans a6) h3) h4 h5 (RdS.mono a6 h6) h7 h8 h9 k0 k1 k2) ?_; rintro _ _ ⟨d9, rfl, rfl⟩; refine At.run 1 rfl (nT (At.seq (sR 1 rfl ?_))); refine At.y (Y.eqOpt .z rfl rfl rfl rfl) rfl rfl rfl ?_; refine At.run 1 rfl ?_; obtain ⟨k3, k4, o0, j⟩ := bjoin j; let b9 : HProp := pc h2 [i6 D.2.2.2.2, .slice h0 D.2.2.1.length h1, .slice g8 D.2.1.length g9, .slice g6 D.1.length g7] 26; let c8 : HProp := row (Fl.int .i64) 3 a9 D.2.2.2.1.length b4 D.2.2.2.1; refine At.joinO 6 (X := Bool) (fun a2 => [(1, .slice A1 a1.length c1), (6, optp a4), (8, .slice a9 D.2.2.2.1.length b4), (9, optp d9), (40, .bool a2)]) (fun a2 => optb Q3.ow 91 d9 u :: b9 :: c8 :: optb Q3.ow 91 a4 p :: a5 :: Fr) (fun a2 => k3 (.inl a2) = some r) ?_ (fun e1 => ?_)
     ·rintro a2 j; have j := (k4 _).symm.trans j
      ·refine nT ?_; rcases bite j with ⟨c9, j⟩ | ⟨c9, j⟩
       ··refine At.condT rfl c9 ?_
         refine sR 1 rfl (nT (At.ret (At.thr ?_))); refine At.thaw b8 ?_; refine At.thaw b7 ?_; refine At.thaw b5 ?_; refine At.drop .z (At.drop .z (At.drop .z (At.drop .z (At.drop .z (At.drop .z (At.drop .z (At.drop .z ?_))))))); cases bret j; exact At.res (.inl rfl) rfl rfl ⟨rfl, rfl⟩
       ··refine At.condF rfl (bn c9) ?_
         refine At.skip (At.thn (sR 2 rfl ?_)); obtain ⟨k5, j⟩ := bnone j; refine At.optOpen (.s (.s (.s .z))) k5 (fun k6 k7 o7 => ?_); have k8 := j; subst k7; have j := k8; refine At.ownPair (T := Ow.fl (Fl.int .i64)) (U := ((Ow.mp Fl.bs.ov Q0.fl.av).pair (Ow.mp Q7.fl.av Q0.fl.av))) (x := ((p.getD default).states, (p.getD default).holds, (p.getD default).next)) (.s .z) ?_; rintro o8 o9 rfl; refine At.ownFl (F := (Fl.int .i64)) (x := (p.getD default).states) .z ?_; rintro rfl; refine At.ownPair (T := Ow.mp Fl.bs.ov Q0.fl.av) (U := (Ow.mp Q7.fl.av Q0.fl.av)) (x := ((p.getD default).holds, (p.getD default).next)) .z ?_; rintro p0 p1 rfl; refine At.ownMp (kv := Fl.bs.ov) (vv := Q0.fl.av) (kvs := (p.getD default).holds) .z ?_; rintro e2 rfl; refine At.ownMp (kv := Q7.fl.av) (vv := Q0.fl.av) (kvs := (p.getD default).next) (.s .z) ?_; rintro e3 rfl; refine At.f1 (At.f2 ?_); obtain ⟨G, k9, j⟩ := bbind j; refine At.call rfl Q86.callee rfl rfl rfl (Q86.spec (RdS.mono ((d8.trans b6).trans a6) hr1) rfl hc1 k9) ?_; rintro _ _ ⟨rfl, rfl⟩; refine At.run 3 rfl ?_; refine At.alloc rfl rfl rfl (fun e4 => ?_); refine At.store rfl rfl rfl rfl .z rfl rfl rfl (.c (.c (.c (.c .n)))) ?_; refine At.run 1 rfl (nT (sR 2 rfl ?_)); obtain ⟨l7, j⟩ := bnone j; refine At.optOpen (.s (.s (.s (.s .z)))) l7 (fun l8 l9 p2 => ?_); have m0 := j; subst l9; have j := m0; refine At.ownPair (T := Ow.fl (Fl.int .i64)) (U := ((Ow.mp Fl.bs.ov Q0.fl.av).pair (Ow.mp Q7.fl.av Q0.fl.av))) (x := ((u.getD default).states, (u.getD default).holds, (u.getD default).next)) (.s .z) ?_; rintro p3 p4 rfl; refine At.ownFl (F := (Fl.int .i64)) (x := (u.getD default).states) .z ?_; rintro rfl; refine At.ownPair (T := Ow.mp Fl.bs.ov Q0.fl.av) (U := (Ow.mp Q7.fl.av Q0.fl.av)) (x := ((u.getD default).holds, (u.getD default).next)) .z ?_; rintro p5 p6 rfl; refine At.ownMp (kv := Fl.bs.ov) (vv := Q0.fl.av) (kvs := (u.getD default).holds) .z ?_; rintro e5 rfl; refine At.ownMp (kv := Q7.fl.av) (vv := Q0.fl.av) (kvs := (u.getD default).next) (.s .z) ?_; rintro e6 rfl; refine At.f1 (At.f2 ?_); obtain ⟨I, m1, j⟩ := bbind j; refine At.call rfl Q86.callee rfl rfl rfl (Q86.spec (RdS.mono ((d8.trans b6).trans a6) hr1) rfl hc1 m1) ?_; rintro _ _ ⟨rfl, rfl⟩; refine At.run 3 rfl ?_; refine At.alloc rfl rfl rfl (fun e7 => ?_); refine At.store rfl rfl rfl rfl .z rfl rfl rfl (.c (.c (.c (.c .n)))) ?_; refine At.run 1 rfl (nT (At.seq (sR 1 rfl (At.nil ?_)))); refine At.thn ?_; refine At.block ?_; obtain ⟨m2, m3, m4, j⟩ := bjoin j; obtain ⟨e8, d0, e9⟩ := bsome j; clear j; unfold Q67.l0 at d0; obtain ⟨d1, a3⟩ := Q16.1 d0; clear d0; let f0 : HProp := pc e7 [.int .u64 I.2.1, .int .u64 I.2.2.1, .int .u64 I.2.2.2.1, .int .u64 I.2.2.2.2] 43; let f3 : HProp := pc l8 [i6 ((u.getD default).states), .map (some e5), .map (some e6)] 91; let f4 : HProp := mapo Fl.bs.ov Q0.fl.av e5 ((u.getD default).holds); let f5 : HProp := mapo Q7.fl.av Q0.fl.av e6 ((u.getD default).next); let f6 : HProp := pc e4 [.int .u64 G.2.1, .int .u64 G.2.2.1, .int .u64 G.2.2.2.1, .int .u64 G.2.2.2.2] 43; let f7 : HProp := pc k6 [i6 ((p.getD default).states), .map (some e2), .map (some e3)] 91; let f8 : HProp := mapo Fl.bs.ov Q0.fl.av e2 ((p.getD default).holds); let f9 : HProp := mapo Q7.fl.av Q0.fl.av e3 ((p.getD default).next); refine At.loopJ (X := Int) (Y := Unit) (e0 := 0) (fun J => [(8, .slice a9 D.2.2.2.1.length b4), (10, bp e4), (11, i6 G.1), (12, bp e7), (13, i6 I.1), (14, i6 J)]) (fun J => f0 :: f3 :: f4 :: f5 :: f6 :: f7 :: f8 :: f9 :: b9 :: c8 :: a5 :: Fr) (fun m_ => fun J => iterN (fun t_ : Int => Q67.l0b D G I t_) m_ J = some e8) d1 0 a3 (fun _ => [(11, i6 G.1), (13, i6 I.1)]) (fun _ => f0 :: f3 :: f4 :: f5 :: f6 :: f7 :: f8 :: f9 :: b9 :: c8 :: a5 :: Fr) (fun _ => m2 (.inl ()) = some r) (fun a w e hs => ⟨e.sub ⟨rfl, rfl, rfl, rfl, rfl, rfl, trivial⟩, (by exact hs)⟩) ?_ (fun m5 => ?_)
         ·rintro _ j; have j := (m3 _).symm.trans j
          ·refine At.ibx ?_; refine At.thn (sR 4 rfl (nT (At.ret ?_))); refine At.thaw b8 ?_; refine At.thaw b7 ?_; refine At.thaw b5 ?_; refine At.drop .z (At.drop .z (At.drop .z (At.drop .z (At.drop .z (At.drop .z (At.drop .z (At.drop .z ?_))))))); refine At.drop .z (At.drop .z (At.drop .z (At.drop .z (At.drop .z (At.drop .z ?_))))); cases bret j; exact At.res (.inl rfl) rfl rfl ⟨rfl, rfl⟩
         ·clear a3 d1; rintro d1 J a3; obtain ⟨m6, f_, m7, hf_, j⟩ := bit a3; clear a3; have j : (Q67.l0b D G I J).bind _ = some e8 := j; unfold Q67.l0b at j
          ·refine At.seq (sR 4 rfl (nT ?_)); rcases bite j with ⟨d2, j⟩ | ⟨d2, j⟩
           ··refine At.condT rfl (decide_eq_true d2) ?_
             refine At.skip (At.thn (At.seq ?_)); refine At.block ?_; refine At.seq ?_; refine At.quiet (by kernel_rfl) ?_; refine At.Quiet.y (Y.load rfl rfl (.s (.s (.s (.s .z)))) rfl rfl rfl) rfl rfl rfl ?_; refine At.Quiet.run 1 rfl ?_; obtain ⟨p7, m8, j⟩ := bbind j; refine At.Quiet.call rfl Q72.callee rfl rfl rfl (Q72.spec m8) (fun _ _ h_ => ⟨h_.1, fun _ hs => h_.2 ▸ hs⟩) ?_; refine At.Quiet.y (Y.load rfl rfl .z rfl rfl rfl) rfl rfl rfl ?_; refine At.Quiet.run 2 rfl ?_; obtain ⟨a7, j⟩ := bnone j; refine At.Quiet.y (Y.ix (.s (.s (.s (.s (.s (.s (.s (.s (.s .z))))))))) rfl rfl rfl rfl rfl rfl a7.1 a7.2) rfl rfl rfl ?_; refine At.Quiet.y (Y.ld (.s (.s (.s (.s (.s (.s (.s (.s (.s .z))))))))) (q := 0) rfl rfl a7.1 a7.2 rfl rfl rfl) rfl rfl rfl ?_; obtain ⟨p8, m9, j⟩ := bbind j; refine At.Quiet.call rfl Q72.callee rfl rfl rfl (Q72.spec m9) (fun _ _ h_ => ⟨h_.1, fun _ hs => h_.2 ▸ hs⟩) ?_; refine At.Quiet.run 1 rfl (At.Quiet.nil (At.thn ?_)); rcases bite j with ⟨d3, j⟩ | ⟨d3, j⟩
             ··refine At.condF rfl (nf d3) ?_
               refine At.skip ?_; refine At.ibn ?_; refine At.thn (At.region (At.run 3 rfl (At.nil ?_))); have j := bnx hf_ j; exact fun a w e hs => ⟨m6, (IntKind.i64.wrap (J + 1)), m7, j, e.sub ⟨rfl, rfl, rfl, rfl, rfl, rfl, trivial⟩, hs⟩
             ··refine At.condT rfl (nt (bn d3)) ?_
               refine sR 1 rfl (nT (At.ret ?_)); refine At.ibr ?_; refine At.thr ?_; have j := bupL m4 e9 j; refine At.thr ?_; refine At.ibr ?_; refine At.thr ?_; refine At.thaw b8 ?_; refine At.thaw b7 ?_; refine At.thaw b5 ?_; refine At.drop .z (At.drop .z (At.drop .z (At.drop .z (At.drop .z (At.drop .z (At.drop .z (At.drop .z ?_))))))); refine At.drop .z (At.drop .z (At.drop .z (At.drop .z (At.drop .z (At.drop .z ?_))))); cases bret j; exact At.res (.inl rfl) rfl rfl ⟨rfl, rfl⟩
           ··refine At.condF rfl (decide_eq_false d2) ?_
             refine At.exit ?_; refine At.the ?_; refine At.the ?_; exact fun a w e hs => m5 () (bdn j e9) a w (e.sub ⟨rfl, rfl, trivial⟩) hs
     ··rcases bite j with ⟨d4, j⟩ | ⟨d4, j⟩
       ··refine At.know (t := 34) rfl d4 ?_
         refine At.run 6 rfl ?_; exact At.of (e1 true j) ⟨rfl, rfl, rfl, rfl, rfl, trivial⟩
       ··refine At.know (t := 34) rfl (bn d4) ?_
         refine At.run 3 rfl ?_; refine At.y (Y.load rfl rfl (.s (.s (.s (.s .z)))) rfl rfl rfl) rfl rfl rfl ?_; refine At.run 2 rfl ?_; exact At.of (e1 (!(decide ((D.2.2.2.1.length : Int) = L))) j) ⟨rfl, rfl, rfl, rfl, rfl, trivial⟩
 ··rcases bite j with ⟨d5, j⟩ | ⟨d5, j⟩
   ··refine At.know (t := 20) rfl (nf d5) ?_
     refine At.run 1 rfl ?_; refine At.y (Y.eqOpt .z rfl rfl rfl rfl) rfl rfl rfl ?_; refine At.run 1 rfl ?_; exact At.of (d7 p.isNone j) ⟨rfl, rfl, rfl, rfl, rfl, trivial⟩
   ··refine At.know (t := 20) rfl (nt (bn d5)) ?_
     refine At.run 3 rfl ?_; exact At.of (d7 true j) ⟨rfl, rfl, rfl, rfl, rfl, trivial⟩

end Go.Bw
namespace Go.Bw
open Go Go.RowKit

noncomputable def itk {σ ρ : Type} (B : σ → Option (σ ⊕ ρ)) : σ ⊕ ρ → Option ρ
 | .inl s' => iter B s'
 | .inr r => some r
theorem Q245 {σ ρ : Type} (B : σ → Option (σ ⊕ ρ)) (s : σ) : iter B s = (B s).bind (itk B) := by
 rw [Q70]
 congr 1
theorem Ev.iter_step {σ ρ : Type} {B : Nat → σ → Option (σ ⊕ ρ)} {s s' : σ} {r : ρ} (h : Ev (fun k => B k s) (.inl s')) (g : Ev (fun k => iter (B k) s') r) : Ev (fun k => iter (B k) s) r := by
 rw [show (fun k => iter (B k) s) = fun k => (B k s).bind (itk (B k)) from funext fun k => Q245 _ _]
 exact Ev.bind (F := fun k => itk (B k)) h g
theorem Ev.iter_end {σ ρ : Type} {B : Nat → σ → Option (σ ⊕ ρ)} {s : σ} {r : ρ} (h : Ev (fun k => B k s) (.inr r)) : Ev (fun k => iter (B k) s) r := by
 rw [show (fun k => iter (B k) s) = fun k => (B k s).bind (itk (B k)) from funext fun k => Q245 _ _]
 exact Ev.bind (F := fun k => itk (B k)) h (Ev.const r)
def Ws (v : BitVec 64) (S : PS) : Prop := ∀ i : Nat, i < 64 → (v.getLsbD i = true ↔ S i)
theorem Ws.eq {v : BitVec 64} {S T : PS} {n : Int} (hn : n ≤ 64) (hu : Ws v S) (hv : Ws v T) (hS : ∀ s, S s → 0 ≤ s ∧ s < n) (hT : ∀ s, T s → 0 ≤ s ∧ s < n) : S = T := by
 funext s
 apply propext
 by_cases h : 0 ≤ s ∧ s < n
 ·have a := hu s.toNat (by omega)
  have b := hv s.toNat (by omega)
  rw [show ((s.toNat : Nat) : Int) = s by omega] at a b
  exact a.symm.trans b
 ·exact ⟨fun x => absurd (hS s x) h, fun x => absurd (hT s x) h⟩
theorem Ws.and {u v : BitVec 64} {S T : PS} (hu : Ws u S) (hv : Ws v T) : Ws (u &&& v) (fun s => S s ∧ T s) := fun i hi => by
 rw [BitVec.getLsbD_and, Bool.and_eq_true, hu i hi, hv i hi]
theorem Ws.or {u v : BitVec 64} {S T : PS} (hu : Ws u S) (hv : Ws v T) : Ws (u ||| v) (fun s => S s ∨ T s) := fun i hi => by
 rw [BitVec.getLsbD_or, Bool.or_eq_true, hu i hi, hv i hi]
theorem Ws.minus {u v : BitVec 64} {S T : PS} (hu : Ws u S) (hv : Ws v T) : Ws (u &&& ~~~ v) (fun s => S s ∧ ¬ T s) := fun i hi => by
 rw [BitVec.getLsbD_and, Bool.and_eq_true, hu i hi, BitVec.getLsbD_not]
 show _ ↔ S i ∧ ¬ T i
 rw [← hv i hi]
 simp [hi]
theorem Ws.none : Ws 0#64 (fun _ => False) := fun i hi => by simp
theorem Ws.lt {u v : BitVec 64} {S T : PS} (hu : Ws u S) (hv : Ws v T) (h : Le S T) (hne : u ≠ v) : u.toNat < v.toNat := by
 have e : u = u &&& v := BitVec.eq_of_getLsbD_eq fun i hi => by
  rw [BitVec.getLsbD_and, Bool.eq_iff_iff, Bool.and_eq_true]
  exact ⟨fun x => ⟨x, (hv i hi).2 (h _ ((hu i hi).1 x))⟩, fun x => x.1⟩
 have h1 : u.toNat ≤ v.toNat := by
  rw [e, BitVec.toNat_and]
  exact Nat.and_le_right
 have h2 : u.toNat ≠ v.toNat := fun h => hne (BitVec.eq_of_toNat_eq h)
 omega
theorem W4.word {u : W4} {S : PS} {n : Int} (hn : n ≤ 64) (h : u.Rep S) (hS : ∀ s, S s → 0 ≤ s ∧ s < n) : u = ⟨u.a, 0#64, 0#64, 0#64⟩ ∧ Ws u.a S := by
 have ha : Ws u.a S := fun i hi => by
  have := h i (by omega) (by omega)
  rw [← this]
  unfold W4.has W4.sel
  rw [if_pos (by omega), show ((i : Int) % 64).toNat = i by omega]
 refine ⟨W4.ext4 fun m m0 m1 => ?_, ha⟩
 by_cases hm : m / 64 = 0
 ·unfold W4.has W4.sel
  rw [if_pos hm, if_pos hm]
 ·have e : u.has m = false := by
   cases hh : u.has m with
   | false => rfl
   | true => have := hS m ((h m m0 m1).1 hh); omega
  rw [e]
  unfold W4.has W4.sel
  rw [if_neg hm]
  split
  ·simp
  ·split <;> simp
structure Tb (n : Int) (holds : List (Bs × Q0)) (next : List (Q7 × Q0)) (C : Ctx) : Prop where
 N : C.N = n
 n0 : 1 ≤ n
 n1 : n ≤ 24
 ok : C.Ok
 ho : ∀ a, ∃ v, Q71.f n holds next a = some (Wd v, 0, 0, 0) ∧ Ws v (C.holds a)
 ba : ∀ a v S, Ws v S → Le S C.all → ∃ u, Q36.f n holds next (Wd v) 0 0 0 a = some (Wd u, 0, 0, 0) ∧ Ws u (fun s => ∃ t, C.edge a s t ∧ S t)
abbrev S1 (v : BitVec 64) : Q0 := ⟨Wd v, 0, 0, 0⟩
theorem band00 : band .u64 0 0 = 0 := rfl
theorem bor00 : bor .u64 0 0 = 0 := rfl
theorem bandnot00 : bandnot .u64 0 0 = 0 := rfl
section
variable {n : Int} {holds : List (Bs × Q0)} {next : List (Q7 × Q0)} {C : Ctx} {f : List Q9} {to : List Int} {al : BitVec 64}
theorem Q229 (v : BitVec 64) (e : List Q0) : Q66.f n holds next f to (Wd al) 0 0 0 e (Wd v) 0 0 0 = some (Wd (al &&& ~~~ v), 0, 0, 0) := by
 unfold Q66.f Q128.f
 rw [Q312, bandnot00]
 rfl
def EnvD (C : Ctx) (e : List Q0) (E : Int → PS) (m : Int) : Prop := ∃ v, gt e m = S1 v ∧ Ws v (E m) ∧ Le (E m) C.all
abbrev NdR (C : Ctx) (n' : Int) (f : List Q9) (e : List Q0) (D : PS) (e' : List Q0) (v : BitVec 64) : Prop :=
 e'.length = f.length ∧ (∀ m, n' < m → gt e' m = gt e m) ∧ Ws v D
def jnk {σ ρ : Type} (g : σ → Option ρ) : σ ⊕ ρ → Option ρ
 | .inl s => g s
 | .inr o => some o
theorem jn_jnk {σ ρ : Type} (x : Option (σ ⊕ ρ)) (g : σ → Option ρ) : jn x g = x.bind (jnk g) := by
 rcases x with _ | _ | _ <;> rfl
theorem Ev.jn_inr {σ ρ : Type} {N : Nat → Option (σ ⊕ ρ)} {g : σ → Option ρ} {r : ρ} (h : Ev N (.inr r)) : Ev (fun k => jn (N k) g) r := by
 rw [show (fun k => jn (N k) g) = fun k => (N k).bind (jnk g) from funext fun k => jn_jnk _ _]
 exact Ev.bind (F := fun _ => jnk g) h (Ev.const r)
theorem Q246 {m : Int} (h0 : 0 ≤ m) (h1 : m < (f.length : Int)) (ha : (gt f m).A = m - 1) {e : List Q0} {F : PS → PS} {J : PS → Prop} (μ : BitVec 64 → Nat)
 (hround : ∀ e1 u S, e1.length = f.length → (∀ q, m < q → gt e1 q = gt e q) → gt e1 m = S1 u → Ws u S → J S →
  ∃ e' v, Ev (fun k => Q13.n k n holds next f to (Wd al) 0 0 0 e1 (m - 1)) (e', Wd v, 0, 0, 0) ∧ e'.length = f.length ∧ (∀ q, m - 1 < q → gt e' q = gt e1 q) ∧ Ws v (F S))
 (hJ : ∀ S u v, J S → Ws u S → Ws v (F S) → v ≠ u → J (F S) ∧ μ v < μ u) : ∀ (d : Nat) (e1 : List Q0) (u : BitVec 64) (S : PS), μ u ≤ d → e1.length = f.length → (∀ q, m < q → gt e1 q = gt e q) → gt e1 m = S1 u → Ws u S → J S →
  ∃ e' v S', Ev (fun k => iter (fun t_ : List Q0 => Q22.l0b n holds next f to (Wd al) 0 0 0 m (Q13.n k) t_) e1) (.inr (e', Wd v, 0, 0, 0)) ∧ e'.length = f.length ∧ (∀ q, m < q → gt e' q = gt e q) ∧ Ws v (F S') ∧ Ws v S' ∧ J S' := by
 intro d
 induction d with
 | zero =>
  intro e1 u S hd hl hfr hg hu hS
  obtain ⟨e', v, hev, hl', hfr', hv⟩ := hround e1 u S hl hfr hg hu hS
  have huv : v = u := Classical.byContradiction fun h => by have := (hJ S u v hS hu hv h).2; omega
  refine ⟨e', v, S, Ev.iter_end ?_, hl', fun q hq => (hfr' q (by omega)).trans (hfr q hq), hv, by rw [huv]; exact hu, hS⟩
  simp only [Q22.l0b, if_pos (And.intro h0 h1), ha]
  refine Ev.bind hev ?_
  have hgm := (hfr' m (by omega)).trans hg
  simp only [hgm, huv]
  simp only [decide_true, Bool.and_self, if_true]
  exact Ev.const _
 | succ d ihd =>
  intro e1 u S hd hl hfr hg hu hS
  obtain ⟨e', v, hev, hl', hfr', hv⟩ := hround e1 u S hl hfr hg hu hS
  have hgm := (hfr' m (by omega)).trans hg
  by_cases huv : v = u
  ·refine ⟨e', v, S, Ev.iter_end ?_, hl', fun q hq => (hfr' q (by omega)).trans (hfr q hq), hv, by rw [huv]; exact hu, hS⟩
   simp only [Q22.l0b, if_pos (And.intro h0 h1), ha]
   refine Ev.bind hev ?_
   simp only [hgm, huv]
   simp only [decide_true, Bool.and_self, if_true]
   exact Ev.const _
  ·obtain ⟨hJ', hμ⟩ := hJ S u v hS hu hv huv
   obtain ⟨e2, v2, S2, g1, g2, g3, g4, g5, g6⟩ := ihd (st e' m (S1 v)) v (F S) (by omega) (by rw [Q87, hl']) (fun q hq => by
    rw [Q74 h0 (by omega) (by omega), if_neg (by omega)]
    exact (hfr' q (by omega)).trans (hfr q hq)) (by rw [Q74 h0 (by omega) h0, if_pos rfl]) hv hJ'
   refine ⟨e2, v2, S2, Ev.iter_step (s' := st e' m (S1 v)) ?_ g1, g2, g3, g4, g5, g6⟩
   simp only [Q22.l0b, if_pos (And.intro h0 h1), ha]
   refine Ev.bind hev ?_
   have hne : ¬ Wd v = Wd u := fun h => huv (Wd.inj h)
   simp only [hgm, decide_eq_false hne, Bool.false_and, Bool.false_eq_true, if_false]
   exact Ev.const _
theorem node_run (T : Tb n holds next C) (hal : Ws al C.all) {sc : List (Int × Bool)} {l m : Int} (b : Bd f to sc l m) : to.length = f.length → (∀ p ∈ sc, m < p.1 ∧ p.1 < (f.length : Int)) → ∀ (e : List Q0) (E : Int → PS), e.length = f.length → (∀ p ∈ sc, EnvD C e E p.1) →
 ∃ e' v, Ev (fun k => Q13.n k n holds next f to (Wd al) 0 0 0 e m) (e', Wd v, 0, 0, 0) ∧ NdR C m f e (den C f to m E) e' v := by
 induction b with
 | @var sc m h0 h1 hk hs =>
  intro hto hsc e E he hE
  obtain ⟨v, hv, hw, _⟩ := hE _ hs
  have := hsc _ hs
  dsimp only at hv hw this
  refine ⟨e, v, Ev.succ rfl (fun k => rfl) ?_, he, fun _ _ => rfl, by rw [Q171 hk]; exact hw⟩
  have hg : Q13.g = Q13.g := rfl
  show Ev (fun k => Q13.g _ _ n holds next f to (Wd al) 0 0 0 e m) _
  simp only [Q13.g, if_pos (And.intro h0 h1), hk, hto, he, if_pos (show 0 ≤ gt to m ∧ gt to m < (f.length : Int) by omega), hv]
  simp
  exact Ev.const _
 | @leaf sc m h0 h1 hk h4 =>
  intro hto hsc e E he hE
  obtain ⟨v, hv, hw⟩ := T.ho (gt f m).Name
  rcases hk with hk | hk | hk | hk | hk
  ·refine ⟨e, al, Ev.succ rfl (fun k => rfl) ?_, he, fun _ _ => rfl, by rw [Q160 hk]; exact hal⟩
   show Ev (fun k => Q13.g _ _ n holds next f to (Wd al) 0 0 0 e m) _
   simp only [Q13.g, if_pos (And.intro h0 h1), hk]
   exact Ev.const _
  ·refine ⟨e, 0#64, Ev.succ rfl (fun k => rfl) ?_, he, fun _ _ => rfl, by rw [Q166 hk]; exact Ws.none⟩
   show Ev (fun k => Q13.g _ _ n holds next f to (Wd al) 0 0 0 e m) _
   simp only [Q13.g, if_pos (And.intro h0 h1), hk]
   exact Ev.const _
  ·refine ⟨e, v, Ev.succ rfl (fun k => rfl) ?_, he, fun _ _ => rfl, by rw [Q165 hk]; exact hw⟩
   show Ev (fun k => Q13.g _ _ n holds next f to (Wd al) 0 0 0 e m) _
   simp only [Q13.g, if_pos (And.intro h0 h1), hk, hv, Option.bind_some]
   exact Ev.const _
  ·exact absurd hk h4
  ·refine ⟨e, al &&& ~~~ v, Ev.succ rfl (fun k => rfl) ?_, he, fun _ _ => rfl, by rw [Q163 hk]; exact hal.minus hw⟩
   show Ev (fun k => Q13.g _ _ n holds next f to (Wd al) 0 0 0 e m) _
   simp only [Q13.g, if_pos (And.intro h0 h1), hk, hv, Option.bind_some, Q229]
   exact Ev.const _
 | @not sc l m h1 hk ha s ih =>
  intro hto hsc e E he hE
  have := s.le
  obtain ⟨e', v, hev, hl, hfr, hw⟩ := ih hto (fun p hp => by
   obtain ⟨q, hq, rfl⟩ := List.mem_map.1 hp
   have := hsc q hq
   dsimp only; omega) e E he (fun p hp => by
   obtain ⟨q, hq, rfl⟩ := List.mem_map.1 hp
   exact hE q hq)
  refine ⟨e', al &&& ~~~ v, Ev.succ rfl (fun k => rfl) ?_, hl, fun q hq => hfr q (by omega), by rw [Q170 hk ha (by omega)]; exact hal.minus hw⟩
  show Ev (fun k => Q13.g (Q13.n k) (Q22.n k) n holds next f to (Wd al) 0 0 0 e m) _
  simp only [Q13.g, if_pos (And.intro (show 0 ≤ m by omega) h1), hk, ha]
  refine Ev.bind hev ?_
  simp only [Q229, Option.bind_some]
  exact Ev.const _
 | @modal sc l m h1 hk ha s ih =>
  intro hto hsc e E he hE
  have := s.le
  obtain ⟨e', v, hev, hl, hfr, hw⟩ := ih hto (fun p hp => by have := hsc p hp; omega) e E he hE
  have hin : Le (den C f to (m - 1) E) C.all := Q196 T.ok s (fun p hp => by obtain ⟨v, _, _, h⟩ := hE p hp; exact h) (fun p hp => by have := hsc p hp; omega)
  rcases hk with hk | hk
  ·obtain ⟨u, hu, hwu⟩ := T.ba (gt f m).Name v _ hw hin
   refine ⟨e', u, Ev.succ rfl (fun k => rfl) ?_, hl, fun q hq => hfr q (by omega), by rw [Q158 hk ha (by omega)]; exact hwu⟩
   show Ev (fun k => Q13.g (Q13.n k) (Q22.n k) n holds next f to (Wd al) 0 0 0 e m) _
   simp only [Q13.g, if_pos (And.intro (show 0 ≤ m by omega) h1), hk, ha]
   refine Ev.bind hev ?_
   simp only [hu, Option.bind_some]
   exact Ev.const _
  ·obtain ⟨u, hu, hwu⟩ := T.ba (gt f m).Name (al &&& ~~~ v) _ (hal.minus hw) (fun s h => h.1)
   refine ⟨e', al &&& ~~~ u, Ev.succ rfl (fun k => rfl) ?_, hl, fun q hq => hfr q (by omega), ?_⟩
   ·show Ev (fun k => Q13.g (Q13.n k) (Q22.n k) n holds next f to (Wd al) 0 0 0 e m) _
    simp only [Q13.g, if_pos (And.intro (show 0 ≤ m by omega) h1), hk, ha]
    refine Ev.bind hev ?_
    simp only [Q229, hu, Option.bind_some]
    exact Ev.const _
   ·rw [Q167 hk ha (by omega)]
    have h := hal.minus hwu
    have e1 : (fun s => C.all s ∧ ∀ t, C.edge (gt f m).Name s t → den C f to (m - 1) E t) = fun s => C.all s ∧ ¬ ∃ t, C.edge (gt f m).Name s t ∧ C.all t ∧ ¬ den C f to (m - 1) E t := by
     funext s
     refine propext (and_congr_right fun _ => ?_)
     constructor
     ·rintro h ⟨t, h1, _, h3⟩; exact h3 (h t h1)
     ·intro h t ht
      exact Classical.byContradiction fun hn => h ⟨t, ht, (T.ok.edge _ _ _ ht).2, hn⟩
    rw [e1]
    exact h
 | @fix sc l m h1 hk ha s ih =>
  intro hto hsc e E he hE
  have sl := s.le
  have n1 := T.n1
  have hall : ∀ S : PS, Le S C.all → ∀ s, S s → 0 ≤ s ∧ s < n := fun S h s hs => by have := h s hs; unfold Ctx.all at this; rw [T.N] at this; exact this
  have hsc' : ∀ p ∈ (m, true) :: sc, m - 1 < p.1 ∧ p.1 < (f.length : Int) := fun p hp => by
   rcases List.mem_cons.1 hp with rfl | hp
   ·dsimp only; omega
   ·have := hsc p hp; omega
  have hround : ∀ e1 u S, e1.length = f.length → (∀ q, m < q → gt e1 q = gt e q) → gt e1 m = S1 u → Ws u S → Le S C.all →
   ∃ e' v, Ev (fun k => Q13.n k n holds next f to (Wd al) 0 0 0 e1 (m - 1)) (e', Wd v, 0, 0, 0) ∧ e'.length = f.length ∧ (∀ q, m - 1 < q → gt e' q = gt e1 q) ∧ Ws v (den C f to (m - 1) (updE E m S)) := fun e1 u S hl hfr hg hu hS =>
   ih hto hsc' e1 (updE E m S) hl (fun p hp => by
    rcases List.mem_cons.1 hp with rfl | hp
    ·exact ⟨u, hg, by dsimp only; rw [Q129]; exact hu, by dsimp only; rw [Q129]; exact hS⟩
    ·have := hsc p hp
     obtain ⟨v, h1, h2, h3⟩ := hE p hp
     refine ⟨v, (hfr _ (by omega)).trans h1, ?_, ?_⟩ <;> rw [Q137 (by omega)] <;> assumption)
  have hin : ∀ S, Le S C.all → Le (den C f to (m - 1) (updE E m S)) C.all := fun S hS => Q196 T.ok s (fun p hp => by
   rcases List.mem_cons.1 hp with rfl | hp
   ·rw [Q129]; exact hS
   ·have := hsc p hp
    rw [Q137 (by omega)]
    obtain ⟨v, _, _, h⟩ := hE p hp
    exact h) (fun p hp => (hsc' p hp).1)
  have hmono : ∀ S S', Le S S' → Le (den C f to (m - 1) (updE E m S)) (den C f to (m - 1) (updE E m S')) := fun S S' h =>
   Q233 s (fun p hp => (hsc' p hp).1) ((Way.rfl sc E).cons (fun p hp => by have := hsc p hp; omega) h)
  have hup : ∀ q, m < q → gt (st e m (S1 0#64)) q = gt e q := fun q hq => by rw [Q74 (by omega) (by omega) (by omega), if_neg (by omega)]
  have hup' : ∀ q, m < q → gt (st e m (S1 al)) q = gt e q := fun q hq => by rw [Q74 (by omega) (by omega) (by omega), if_neg (by omega)]
  have hfix : ∀ (a b : BitVec 64) (D : PS) (e' : List Q0), Ev (fun k => iter (fun t_ : List Q0 => Q22.l0b n holds next f to (Wd al) 0 0 0 m (Q13.n k) t_) (st e m (S1 a))) (.inr (e', Wd b, 0, 0, 0)) →
   Ev (fun k => Q22.n k n holds next f to (Wd al) 0 0 0 e m (Wd a) 0 0 0) (e', Wd b, 0, 0, 0) := fun a b D e' h => by
   refine Ev.succ rfl (fun k => rfl) ?_
   show Ev (fun k => Q22.g (Q13.n k) (Q22.n k) n holds next f to (Wd al) 0 0 0 e m (Wd a) 0 0 0) _
   simp only [Q22.g, Q22.l0, he, if_pos (And.intro (show 0 ≤ m by omega) h1)]
   exact Ev.jn_inr h
  rcases hk with hk | hk
  ·obtain ⟨e', v, S', g1, g2, g3, g4, g5, g6, g7, g8⟩ := Q246 (n := n) (holds := holds) (next := next) (to := to) (al := al) (show 0 ≤ m by omega) h1 ha (e := e) (F := fun S => den C f to (m - 1) (updE E m S)) (J := fun S => Le S C.all ∧ Le S (den C f to (m - 1) (updE E m S)) ∧ Le S (lfp fun S => den C f to (m - 1) (updE E m S))) (fun u => 2 ^ 64 - u.toNat)
    (fun e1 u S hl hfr hg hu hS => hround e1 u S hl hfr hg hu hS.1) (fun S u v hS hu hv hne => ⟨⟨hin S hS.1, hmono _ _ hS.2.1, fun s hs => Q232 hmono s (hmono _ _ hS.2.2 s hs)⟩, by
     have := hu.lt hv hS.2.1 (fun h => hne h.symm)
     have := v.isLt
     omega⟩) (2 ^ 64) (st e m (S1 0#64)) 0#64 (fun _ => False) (by omega) (by rw [Q87, he]) hup (by rw [Q74 (by omega) (by omega) (by omega), if_pos rfl]) Ws.none ⟨fun _ h => h.elim, fun _ h => h.elim, fun _ h => h.elim⟩
   have hSF : S' = den C f to (m - 1) (updE E m S') := Ws.eq (n := n) (by omega) g5 g4 (hall _ g6) (hall _ (hin _ g6))
   refine ⟨e', v, Ev.succ rfl (fun k => rfl) ?_, g2, g3, ?_⟩
   ·show Ev (fun k => Q13.g (Q13.n k) (Q22.n k) n holds next f to (Wd al) 0 0 0 e m) _
    simp only [Q13.g, if_pos (And.intro (show 0 ≤ m by omega) h1), hk]
    exact Ev.bind (hfix 0#64 v (fun _ => False) e' g1) (Ev.const _)
   ·rw [Q157 hk ha (by omega)]
    have : S' = lfp fun S => den C f to (m - 1) (updE E m S) := funext fun s => propext ⟨g8 s, fun h => h S' fun t ht => by rw [hSF]; exact ht⟩
    rw [← this]
    exact g5
  ·obtain ⟨e', v, S', g1, g2, g3, g4, g5, g6, g7, g8⟩ := Q246 (n := n) (holds := holds) (next := next) (to := to) (al := al) (show 0 ≤ m by omega) h1 ha (e := e) (F := fun S => den C f to (m - 1) (updE E m S)) (J := fun S => Le S C.all ∧ Le (den C f to (m - 1) (updE E m S)) S ∧ Le (gfp fun S s => C.all s ∧ den C f to (m - 1) (updE E m S) s) S) (fun u => u.toNat)
    (fun e1 u S hl hfr hg hu hS => hround e1 u S hl hfr hg hu hS.1) (fun S u v hS hu hv hne => ⟨⟨hin S hS.1, hmono _ _ hS.2.1, fun s hs => hmono _ _ hS.2.2 s (gfp_post (F := fun S s => C.all s ∧ den C f to (m - 1) (updE E m S) s) (fun S S' h s hs => ⟨hs.1, hmono _ _ h s hs.2⟩) s hs).2⟩, hv.lt hu hS.2.1 hne⟩) al.toNat (st e m (S1 al)) al C.all (by omega) (by rw [Q87, he]) hup' (by rw [Q74 (by omega) (by omega) (by omega), if_pos rfl]) hal ⟨fun _ h => h, hin _ (fun _ h => h), fun s ⟨S, hS, hs⟩ => (hS s hs).1⟩
   have hSF : S' = den C f to (m - 1) (updE E m S') := Ws.eq (n := n) (by omega) g5 g4 (hall _ g6) (hall _ (hin _ g6))
   refine ⟨e', v, Ev.succ rfl (fun k => rfl) ?_, g2, g3, ?_⟩
   ·show Ev (fun k => Q13.g (Q13.n k) (Q22.n k) n holds next f to (Wd al) 0 0 0 e m) _
    simp only [Q13.g, if_pos (And.intro (show 0 ≤ m by omega) h1), hk]
    exact Ev.bind (hfix al v (fun _ => False) e' g1) (Ev.const _)
   ·rw [Q164 hk ha (by omega)]
    have : S' = gfp fun S s => C.all s ∧ den C f to (m - 1) (updE E m S) s := funext fun s => propext ⟨fun h => ⟨S', fun t ht => ⟨g6 t ht, by rw [← hSF]; exact ht⟩, h⟩, g8 s⟩
    rw [← this]
    exact g5
 | @two sc l q m h1 hk ha hb s t ih1 ih2 =>
  intro hto hsc e E he hE
  have := s.le
  have := t.le
  obtain ⟨e1, v1, hev1, hl1, hfr1, hw1⟩ := ih1 hto (fun p hp => by have := hsc p hp; omega) e E he hE
  obtain ⟨e2, v2, hev2, hl2, hfr2, hw2⟩ := ih2 hto (fun p hp => by have := hsc p hp; omega) e1 E hl1 (fun p hp => by
   obtain ⟨v, h1, h2⟩ := hE p hp
   have := hsc p hp
   exact ⟨v, (hfr1 _ (by omega)).trans h1, h2⟩)
  have hfr : ∀ w, m < w → gt e2 w = gt e w := fun w hw => (hfr2 w (by omega)).trans (hfr1 w (by omega))
  rcases hk with hk | hk
  ·refine ⟨e2, v1 &&& v2, Ev.succ rfl (fun k => rfl) ?_, hl2, hfr, by rw [Q162 hk ha hb (by omega) (by omega)]; exact hw1.and hw2⟩
   show Ev (fun k => Q13.g (Q13.n k) (Q22.n k) n holds next f to (Wd al) 0 0 0 e m) _
   simp only [Q13.g, if_pos (And.intro (show 0 ≤ m by omega) h1), hk, ha, hb]
   refine Ev.bind hev1 (Ev.bind hev2 ?_)
   simp only [Q97.f, Q154, band00, Option.bind_some]
   exact Ev.const _
  ·refine ⟨e2, v1 ||| v2, Ev.succ rfl (fun k => rfl) ?_, hl2, hfr, by rw [Q169 hk ha hb (by omega) (by omega)]; exact hw1.or hw2⟩
   show Ev (fun k => Q13.g (Q13.n k) (Q22.n k) n holds next f to (Wd al) 0 0 0 e m) _
   simp only [Q13.g, if_pos (And.intro (show 0 ≤ m by omega) h1), hk, ha, hb]
   refine Ev.bind hev1 (Ev.bind hev2 ?_)
   simp only [Q126.f, bor_wd, bor00, Option.bind_some]
   exact Ev.const _
end
end Go.Bw
namespace Go.Bw
open Go Go.RowKit

def wide (x : Q9) : Q9 := if x.Kind = 12 then { x with Kind := 3 } else x
theorem Q159 (x : Q9) : (wide x).A = x.A ∧ (wide x).B = x.B ∧ (wide x).Name = x.Name := by
 unfold wide
 split <;> exact ⟨rfl, rfl, rfl⟩
theorem Q131 {x : Q9} {k : Int} (h : k ≠ 3) (hk : (wide x).Kind = k) : x.Kind = k := by
 unfold wide at hk
 split at hk
 ·exact absurd hk.symm h
 ·exact hk
theorem Bd.wide_of {f g : List Q9} {to : List Int} (hl : g.length = f.length) (hg : ∀ m, 0 ≤ m → m < (f.length : Int) → gt g m = Bw.wide (gt f m)) {sc : List (Int × Bool)} {l n : Int} (b : Bd g to sc l n) : Bd f to sc l n := by
 induction b with
 | @var sc n h0 h1 hk hs =>
  rw [hl] at h1
  rw [hg n h0 h1] at hk
  exact .var h0 h1 (Q131 (by decide) hk) hs
 | @leaf sc n h0 h1 hk h4 =>
  rw [hl] at h1
  rw [hg n h0 h1] at hk h4
  refine .leaf h0 h1 ?_ fun h => h4 ?_
  ·unfold Bw.wide at hk
   unfold Leafy at hk ⊢
   split at hk <;> omega
  ·unfold Bw.wide
   rw [if_neg (by omega)]; exact h
 | @not sc l n h1 hk ha s ih =>
  have := s.le
  rw [hl] at h1
  rw [hg n (by omega) h1] at hk ha
  rw [(Q159 _).1] at ha
  exact .not h1 (Q131 (by decide) hk) ha ih
 | @modal sc l n h1 hk ha s ih =>
  have := s.le
  rw [hl] at h1
  rw [hg n (by omega) h1] at hk ha
  rw [(Q159 _).1] at ha
  exact .modal h1 (hk.imp (Q131 (by decide)) (Q131 (by decide))) ha ih
 | @fix sc l n h1 hk ha s ih =>
  have := s.le
  rw [hl] at h1
  rw [hg n (by omega) h1] at hk ha
  rw [(Q159 _).1] at ha
  exact .fix h1 (hk.imp (Q131 (by decide)) (Q131 (by decide))) ha ih
 | @two sc l m n h1 hk ha hb s t ih1 ih2 =>
  have := s.le
  have := t.le
  rw [hl] at h1
  rw [hg n (by omega) h1] at hk ha hb
  rw [(Q159 _).1] at ha
  rw [(Q159 _).2.1] at hb
  exact .two h1 (hk.imp (Q131 (by decide)) (Q131 (by decide))) ha hb ih1 ih2
theorem full_run4 {n : Int} (h0 : 1 ≤ n) (h1 : n ≤ 24) : Q81.f n = some (Wd (BitVec.ofInt 64 (2 ^ n.toNat - 1)), 0, 0, 0) := by
 have key : ∀ m : Fin 24, Q81.f ((m.1 : Int) + 1) = some (Wd (BitVec.ofInt 64 (2 ^ (m.1 + 1) - 1)), 0, 0, 0) := by decide +kernel
 have := key ⟨(n - 1).toNat, by omega⟩
 dsimp only at this
 rwa [show (((n - 1).toNat : Nat) : Int) + 1 = n by omega, show (n - 1).toNat + 1 = n.toNat by omega] at this
theorem full_ws {n : Int} (h0 : 1 ≤ n) (h1 : n ≤ 24) : Ws (BitVec.ofInt 64 (2 ^ n.toNat - 1)) (fun s => 0 ≤ s ∧ s < n) := fun i hi => by
 have key : ∀ m : Fin 25, ∀ i : Fin 64, (BitVec.ofInt 64 (2 ^ m.1 - 1)).getLsbD i.1 = decide (i.1 < m.1) := by decide +kernel
 have := key ⟨n.toNat, by omega⟩ ⟨i, hi⟩
 dsimp only at this ⊢
 rw [this, decide_eq_true_iff]
 omega
theorem eval_run (f : List Q9) (hs : ∀ n ∈ f, (n.Name.length : Int) ≤ 9223372036854775807) (hz : (0 + f.length) * 48 ≤ 140737488355328) :
 (∀ n holds next, Q86.f n holds next f = some (1, 0, 0, 0, 0)) ∨ ∃ to, 1 ≤ f.length ∧ f.length ≤ 60 ∧ to.length = f.length ∧ Bd f to [] 0 ((f.length : Int) - 1) ∧
  ∀ n holds next C, Tb n holds next C → ∃ v, Q86.f n holds next f = some (0, Wd v, 0, 0, 0) ∧ Ws v (den C f to ((f.length : Int) - 1) fun _ _ => False) := by
 obtain ⟨r, hr, g, rfl, hl, hg⟩ := Q35 (body := fun t_ : (List Q9) × Int => Q52.l0b f t_.1 t_.2) (fun s => s.1.length = f.length ∧ 0 ≤ s.2 ∧ s.2 ≤ (f.length : Int) ∧ (∀ m, 0 ≤ m → m < s.2 → gt s.1 m = wide (gt f m)) ∧ ∀ m, s.2 ≤ m → gt s.1 m = gt f m)
  (fun r => ∃ g, r = .inl g ∧ g.length = f.length ∧ ∀ m, 0 ≤ m → m < (f.length : Int) → gt g m = wide (gt f m)) (fun s => ((f.length : Int) - s.2).toNat) (fun ⟨t, i⟩ ⟨a0, a1, a2, a3, a4⟩ => by
   dsimp only at a0 a1 a2 a3 a4 ⊢
   unfold Q52.l0b
   by_cases hi : i < (f.length : Int)
   ·right
    have hx := a4 i (Int.le_refl _)
    rw [if_pos hi, if_pos ⟨a1, hi⟩, wrap64 (x := i + 1) (by omega) (by omega)]
    by_cases hk : (gt t i).Kind = 12
    ·rw [if_pos hk, Q12]
     refine ⟨_, rfl, ⟨by dsimp only; rw [Q87, a0], by dsimp only; omega, by dsimp only; omega, fun m m0 m1 => ?_, fun m m1 => ?_⟩, by dsimp only; omega⟩
     ·dsimp only at m1 ⊢
      rw [Q74 a1 (by omega) m0]
      split
      ·rename_i hmi
       rw [hmi, hx]
       unfold wide
       rw [if_pos (by rw [← hx]; exact hk)]
      ·exact a3 m m0 (by omega)
     ·dsimp only at m1 ⊢
      rw [Q74 a1 (by omega) (by omega), if_neg (by omega)]
      exact a4 m (by omega)
    ·rw [if_neg hk, Q12]
     refine ⟨_, rfl, ⟨a0, by dsimp only; omega, by dsimp only; omega, fun m m0 m1 => ?_, fun m m1 => a4 m (by dsimp only at m1; omega)⟩, by dsimp only; omega⟩
     dsimp only at m1 ⊢
     by_cases hm : m = i
     ·rw [hm, hx]
      unfold wide
      rw [if_neg (by rw [← hx]; exact hk)]
     ·exact a3 m m0 (by omega)
   ·left
    rw [if_neg hi]
    exact ⟨_, rfl, t, rfl, a0, fun m m0 m1 => a3 m m0 (by omega)⟩) (f, 0) ⟨rfl, Int.le_refl 0, by dsimp only; omega, fun m m0 m1 => by dsimp only at m1; omega, fun m _ => rfl⟩
 have hr' : Q52.l0 f f 0 = some (.inl g) := hr
 have hgs : ∀ x ∈ g, (x.Name.length : Int) ≤ 9223372036854775807 := fun x hx => by
  obtain ⟨q, hq, rfl⟩ := List.getElem_of_mem hx
  have e := hg (q : Int) (by omega) (by omega)
  rw [Q95 (List.getElem?_eq_getElem hq)] at e
  rw [e, (Q159 _).2.2]
  exact hs _ (Q48 (by omega) (by omega))
 obtain ⟨e, i, hc, hb⟩ := check_run g hgs
 by_cases he : e = 0
 ·right
  obtain ⟨to, B⟩ := hb he
  have n0 := B.n0
  have n1 := B.n1
  have bd : Bd f to [] 0 ((f.length : Int) - 1) := by have := B.bd.wide_of hl hg; rwa [hl] at this
  refine ⟨to, by omega, by omega, by rw [B.len, hl], bd, fun n holds next C T => ?_⟩
  have hal : Ws (BitVec.ofInt 64 (2 ^ n.toNat - 1)) C.all := by
   have := full_ws T.n0 T.n1
   unfold Ctx.all
   rw [T.N]
   exact this
  obtain ⟨e', v, hev, _, _, hw⟩ := node_run T hal bd (by rw [B.len, hl]) (fun p hp => by cases hp) (List.replicate (f.length : Int).toNat ⟨0, 0, 0, 0⟩) (fun _ _ => False) (by simp) (fun p hp => by cases hp)
  refine ⟨v, ?_, hw⟩
  unfold Q86.f Q52.f Q118.f
  rw [if_pos hz, Option.bind_some, hr', Q12, hc, Option.bind_some]
  simp only [he, if_true, B.bi, Option.bind_some, Q98.f, full_run4 T.n0 T.n1]
  rw [if_pos (by omega)]
  simp only [Option.bind_some]
  unfold Q13.f
  rw [wrap64 (by omega) (by omega), hev.recF]
  rfl
 ·left
  intro n holds next
  unfold Q86.f Q52.f Q118.f
  rw [if_pos hz, Option.bind_some, hr', Q12, hc, Option.bind_some]
  simp only [if_neg he, Option.bind_some]
end Go.Bw
namespace Go.Bw
open Go Go.RowKit

structure Bis (C D : Ctx) (c : Int → Int) : Prop where
 cm : ∀ s, C.all s → D.all (c s)
 onto : ∀ u, D.all u → ∃ s, C.all s ∧ c s = u
 ho : ∀ a s, C.all s → (C.holds a s ↔ D.holds a (c s))
 fw : ∀ a s t, C.edge a s t → D.edge a (c s) (c t)
 bk : ∀ a s w, C.all s → D.edge a (c s) w → ∃ t, C.edge a s t ∧ c t = w
theorem den_bis {C D : Ctx} (hC : C.Ok) (hD : D.Ok) {c : Int → Int} (B : Bis C D c) {f : List Q9} {to : List Int} {sc : List (Int × Bool)} {l n : Int} (b : Bd f to sc l n) : (∀ p ∈ sc, n < p.1) → ∀ {E E' : Int → PS},
 (∀ p ∈ sc, Le (E p.1) C.all) → (∀ p ∈ sc, Le (E' p.1) D.all) → (∀ p ∈ sc, ∀ s, C.all s → (E p.1 s ↔ E' p.1 (c s))) → ∀ s, C.all s → (den C f to n E s ↔ den D f to n E' (c s)) := by
 induction b with
 | @var sc n h0 h1 hk hs => intro hn E E' hE hE' h s hs'; rw [Q171 hk, Q171 hk]; exact h _ hs s hs'
 | @leaf sc n h0 h1 hk h4 =>
  intro hn E E' hE hE' h s hs
  rcases hk with hk | hk | hk | hk | hk
  ·rw [Q160 hk, Q160 hk]; exact ⟨fun _ => B.cm s hs, fun _ => hs⟩
  ·rw [Q166 hk, Q166 hk]
  ·rw [Q165 hk, Q165 hk]; exact B.ho _ s hs
  ·exact absurd hk h4
  ·rw [Q163 hk, Q163 hk]
   exact and_congr ⟨fun _ => B.cm s hs, fun _ => hs⟩ (not_congr (B.ho _ s hs))
 | @not sc l n h1 hk ha s ih =>
  intro hn E E' hE hE' h q hq
  have := s.le
  rw [Q170 hk ha (by omega), Q170 hk ha (by omega)]
  refine and_congr ⟨fun _ => B.cm q hq, fun _ => hq⟩ (not_congr (ih ?_ ?_ ?_ ?_ q hq)) <;> intro p hp <;> obtain ⟨p', hp', rfl⟩ := List.mem_map.1 hp
  ·have := hn p' hp'; dsimp only; omega
  ·exact hE p' hp'
  ·exact hE' p' hp'
  ·exact h p' hp'
 | @modal sc l n h1 hk ha s ih =>
  intro hn E E' hE hE' h q hq
  have := s.le
  have ih := ih (fun p hp => by have := hn p hp; omega) hE hE' h
  rcases hk with hk | hk
  ·rw [Q158 hk ha (by omega), Q158 hk ha (by omega)]
   constructor
   ·rintro ⟨t, h1, h2⟩
    exact ⟨c t, B.fw _ _ _ h1, (ih t (hC.edge _ _ _ h1).2).1 h2⟩
   ·rintro ⟨w, h1, h2⟩
    obtain ⟨t, h3, rfl⟩ := B.bk _ _ _ hq h1
    exact ⟨t, h3, (ih t (hC.edge _ _ _ h3).2).2 h2⟩
  ·rw [Q167 hk ha (by omega), Q167 hk ha (by omega)]
   refine and_congr ⟨fun _ => B.cm q hq, fun _ => hq⟩ ?_
   constructor
   ·intro hh w hw
    obtain ⟨t, h3, rfl⟩ := B.bk _ _ _ hq hw
    exact (ih t (hC.edge _ _ _ h3).2).1 (hh t h3)
   ·intro hh t ht
    exact (ih t (hC.edge _ _ _ ht).2).2 (hh _ (B.fw _ _ _ ht))
 | @fix sc l n h1 hk ha s ih =>
  intro hn E E' hE hE' h q hq
  have sl := s.le
  have hn' : ∀ p ∈ (n, true) :: sc, n - 1 < p.1 := fun p hp => by
   rcases List.mem_cons.1 hp with rfl | hp
   ·dsimp only; omega
   ·have := hn p hp; omega
  have cons : ∀ {A : Ctx} {X : Int → PS} {S : PS}, (∀ p ∈ sc, Le (X p.1) A.all) → Le S A.all → ∀ p ∈ (n, true) :: sc, Le (updE X n S p.1) A.all := fun hX hS p hp => by
   rcases List.mem_cons.1 hp with rfl | hp
   ·rw [Q129]; exact hS
   ·rw [Q137 (by have := hn p hp; omega)]; exact hX p hp
  have inC : ∀ S, Le S C.all → Le (den C f to (n - 1) (updE E n S)) C.all := fun S hS => Q196 hC s (cons hE hS) hn'
  have inD : ∀ S, Le S D.all → Le (den D f to (n - 1) (updE E' n S)) D.all := fun S hS => Q196 hD s (cons hE' hS) hn'
  have moC : ∀ S S', Le S S' → Le (den C f to (n - 1) (updE E n S)) (den C f to (n - 1) (updE E n S')) := fun S S' h => Q233 s hn' ((Way.rfl sc E).cons (fun p hp => by have := hn p hp; omega) h)
  have moD : ∀ S S', Le S S' → Le (den D f to (n - 1) (updE E' n S)) (den D f to (n - 1) (updE E' n S')) := fun S S' h => Q233 s hn' ((Way.rfl sc E').cons (fun p hp => by have := hn p hp; omega) h)
  have IH : ∀ S S' : PS, Le S C.all → Le S' D.all → (∀ s, C.all s → (S s ↔ S' (c s))) → ∀ s, C.all s → (den C f to (n - 1) (updE E n S) s ↔ den D f to (n - 1) (updE E' n S') (c s)) := fun S S' hS hS' hh =>
   ih hn' (cons hE hS) (cons hE' hS') (fun p hp => by
    rcases List.mem_cons.1 hp with rfl | hp
    ·rw [Q129, Q129]; exact hh
    ·rw [Q137 (by have := hn p hp; omega), Q137 (by have := hn p hp; omega)]; exact h p hp)
  rcases hk with hk | hk
  ·rw [Q157 hk ha (by omega), Q157 hk ha (by omega)]
   have lD : Le (lfp fun S => den D f to (n - 1) (updE E' n S)) D.all := fun u hu => hu D.all (inD _ fun _ h => h)
   have lC : Le (lfp fun S => den C f to (n - 1) (updE E n S)) C.all := fun u hu => hu C.all (inC _ fun _ h => h)
   constructor
   ·intro hs
    refine (hs (fun s => C.all s ∧ lfp (fun S => den D f to (n - 1) (updE E' n S)) (c s)) fun t ht => ?_).2
    have ta := inC _ (fun _ h => h.1) t ht
    exact ⟨ta, Q232 moD _ ((IH _ _ (fun _ h => h.1) lD (fun s hs => ⟨fun h => h.2, fun h => ⟨hs, h⟩⟩) t ta).1 ht)⟩
   ·intro hs
    refine (hs (fun u => D.all u ∧ ∀ s, C.all s → c s = u → lfp (fun S => den C f to (n - 1) (updE E n S)) s) fun u hu => ⟨inD _ (fun _ h => h.1) u hu, fun t ht htu => ?_⟩).2 q hq rfl
    subst htu
    refine Q232 moC _ (moC (fun s => C.all s ∧ D.all (c s) ∧ ∀ s', C.all s' → c s' = c s → lfp (fun S => den C f to (n - 1) (updE E n S)) s') _ (fun s h => h.2.2 s h.1 rfl) t ?_)
    exact (IH _ _ (fun _ h => h.1) (fun _ h => h.1) (fun s hs => ⟨fun h => h.2, fun h => ⟨hs, h⟩⟩) t ht).2 hu
  ·rw [Q164 hk ha (by omega), Q164 hk ha (by omega)]
   constructor
   ·rintro ⟨S, hS, hs⟩
    refine ⟨fun u => D.all u ∧ ∃ s, C.all s ∧ c s = u ∧ S s, fun u hu => ⟨hu.1, ?_⟩, B.cm q hq, q, hq, rfl, hs⟩
    obtain ⟨_, t, ht, rfl, hSt⟩ := hu
    refine (IH (fun s => C.all s ∧ D.all (c s) ∧ ∃ s', C.all s' ∧ c s' = c s ∧ S s') _ (fun _ h => h.1) (fun _ h => h.1) (fun s hs => ⟨fun h => h.2, fun h => ⟨hs, h⟩⟩) t ht).1 ?_
    exact moC S _ (fun s h => ⟨(hS s h).1, B.cm s (hS s h).1, s, (hS s h).1, rfl, h⟩) t (hS t hSt).2
   ·rintro ⟨S, hS, hs⟩
    refine ⟨fun s => C.all s ∧ S (c s), fun t ht => ⟨ht.1, ?_⟩, hq, hs⟩
    exact (IH _ S (fun _ h => h.1) (fun u h => (hS u h).1) (fun s hs => ⟨fun h => h.2, fun h => ⟨hs, h⟩⟩) t ht.1).2 (hS _ ht.2).2
 | @two sc l m n h1 hk ha hb s t ih1 ih2 =>
  intro hn E E' hE hE' h q hq
  have := s.le
  have := t.le
  have ih1 := ih1 (fun p hp => by have := hn p hp; omega) hE hE' h q hq
  have ih2 := ih2 (fun p hp => by have := hn p hp; omega) hE hE' h q hq
  rcases hk with hk | hk
  ·rw [Q162 hk ha hb (by omega) (by omega), Q162 hk ha hb (by omega) (by omega)]
   exact and_congr ih1 ih2
  ·rw [Q169 hk ha hb (by omega) (by omega), Q169 hk ha hb (by omega) (by omega)]
   exact or_congr ih1 ih2
end Go.Bw
