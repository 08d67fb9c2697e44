/- Words as numbers; four words as a set of small numbers. Conditions: none. -/
import Derived.Test.YtbkooifhcekpmaaGreatBwLoop
set_option linter.unusedVariables false
set_option linter.unusedSimpArgs false
set_option linter.unusedSectionVars false
namespace Go.Bw
open Go Go.RowKit

/-- A word, as a number. -/
def Wd (v : BitVec 64) : Int := (v.toNat : Int)
theorem Wd.lt (v : BitVec 64) : 0 ≤ Wd v ∧ Wd v < 18446744073709551616 := by
  unfold Wd
  have := v.isLt
  omega
theorem wrapu {x : Int} (h0 : 0 ≤ x) (h1 : x < 18446744073709551616) : IntKind.u64.wrap x = x := by
  simp [IntKind.wrap, IntKind.bits, IntKind.signed]
  omega
theorem ofInt_wd (v : BitVec 64) : BitVec.ofInt 64 (Wd v) = v := by
  unfold Wd
  apply BitVec.eq_of_toNat_eq
  simp
theorem Wd.inj {u v : BitVec 64} (h : Wd u = Wd v) : u = v := by rw [← ofInt_wd u, h, ofInt_wd]
theorem wrap_nat (v : BitVec 64) : IntKind.u64.wrap (v.toNat : Int) = Wd v := wrapu (Wd.lt v).1 (Wd.lt v).2
theorem bor_wd (u v : BitVec 64) : bor .u64 (Wd u) (Wd v) = Wd (u ||| v) := by
  show IntKind.u64.wrap ((BitVec.ofInt 64 (Wd u) ||| BitVec.ofInt 64 (Wd v)).toNat : Int) = _
  rw [ofInt_wd, ofInt_wd, wrap_nat]
theorem band_wd (u v : BitVec 64) : band .u64 (Wd u) (Wd v) = Wd (u &&& v) := by
  show IntKind.u64.wrap ((BitVec.ofInt 64 (Wd u) &&& BitVec.ofInt 64 (Wd v)).toNat : Int) = _
  rw [ofInt_wd, ofInt_wd, wrap_nat]
theorem bandnot_wd (u v : BitVec 64) : bandnot .u64 (Wd u) (Wd v) = Wd (u &&& ~~~ v) := by
  show IntKind.u64.wrap ((BitVec.ofInt 64 (Wd u) &&& ~~~ BitVec.ofInt 64 (Wd v)).toNat : Int) = _
  rw [ofInt_wd, ofInt_wd, wrap_nat]
theorem shl_one {s : Int} (h0 : 0 ≤ s) (h1 : s < 64) : Bw.shl .u64 1 s = Wd (BitVec.twoPow 64 s.toNat) := by
  have hs : min s.toNat IntKind.u64.bits = s.toNat := Nat.min_eq_left (show s.toNat ≤ 64 by omega)
  have hp : 2 ^ s.toNat < 2 ^ 64 := Nat.pow_lt_pow_right (by decide) (by omega)
  unfold Bw.shl Wd
  have e : (2 : Int) ^ s.toNat = ((2 ^ s.toNat : Nat) : Int) := by rw [Int.natCast_pow]; rfl
  rw [hs, Int.one_mul, BitVec.toNat_twoPow, Nat.mod_eq_of_lt hp, e]
  have h2 : (2 : Nat) ^ 64 = 18446744073709551616 := by rfl
  rw [h2] at hp
  generalize (2 : Nat) ^ s.toNat = q at hp
  exact wrapu (by omega) (by omega)
theorem shr6 {n : Int} (h0 : 0 ≤ n) : Bw.shr .i64 n 6 = n / 64 := by
  show n.fdiv (2 ^ 6) = n / 64
  rw [Int.fdiv_eq_ediv_of_nonneg _ (by decide)]
  rfl
theorem band63 {n : Int} (h0 : 0 ≤ n) (h1 : n ≤ 9223372036854775807) : band .i64 n 63 = n % 64 := by
  show IntKind.i64.wrap ((BitVec.ofInt 64 n &&& BitVec.ofInt 64 63).toNat : Int) = _
  have e1 : (BitVec.ofInt 64 n).toNat = n.toNat := by rw [BitVec.toNat_ofInt]; omega
  have e2 : (BitVec.ofInt 64 63).toNat = 2 ^ 6 - 1 := by rfl
  rw [BitVec.toNat_and, e1, e2, Nat.and_two_pow_sub_one_eq_mod, wrap64 (by omega) (by omega)]
  omega
/-- Four words. -/
structure W4 where
  a : BitVec 64
  b : BitVec 64
  c : BitVec 64
  d : BitVec 64
def W4.sel (u : W4) (k : Int) : BitVec 64 := if k = 0 then u.a else if k = 1 then u.b else if k = 2 then u.c else u.d
def W4.has (u : W4) (n : Int) : Bool := (u.sel (n / 64)).getLsbD (n % 64).toNat
def W4.Rep (u : W4) (S : Int → Prop) : Prop := ∀ n, 0 ≤ n → n < 256 → (u.has n = true ↔ S n)
def W4.z : W4 := ⟨0#64, 0#64, 0#64, 0#64⟩
theorem W4.z_rep : W4.z.Rep (fun _ => False) := fun n h0 h1 => by
  unfold W4.has W4.sel W4.z
  dsimp only
  split
  · simp
  · split
    · simp
    · split <;> simp
theorem W4.ext4 {u v : W4} (h : ∀ n, 0 ≤ n → n < 256 → u.has n = v.has n) : u = v := by
  have key : ∀ k : Int, 0 ≤ k → k < 4 → u.sel k = v.sel k := fun k h0 h1 => by
    apply BitVec.eq_of_getLsbD_eq
    intro i hi
    have := h (64 * k + i) (by omega) (by omega)
    unfold W4.has at this
    rwa [show (64 * k + (i : Int)) / 64 = k from by omega, show ((64 * k + (i : Int)) % 64).toNat = i from by omega] at this
  have k0 := key 0 (by decide) (by decide)
  have k1 := key 1 (by decide) (by decide)
  have k2 := key 2 (by decide) (by decide)
  have k3 := key 3 (by decide) (by decide)
  cases u
  cases v
  simp [W4.sel] at k0 k1 k2 k3
  rw [k0, k1, k2, k3]
theorem W4.Rep.uniq {u v : W4} {S T : Int → Prop} (hu : u.Rep S) (hv : v.Rep T) (h : ∀ n, 0 ≤ n → n < 256 → (S n ↔ T n)) : u = v := W4.ext4 fun n h0 h1 => by
  rw [Bool.eq_iff_iff, hu n h0 h1, hv n h0 h1]
  exact h n h0 h1
def W4.put (u : W4) (n : Int) : W4 :=
  if n / 64 = 0 then { u with a := u.a ||| BitVec.twoPow 64 (n % 64).toNat } else if n / 64 = 1 then { u with b := u.b ||| BitVec.twoPow 64 (n % 64).toNat }
  else if n / 64 = 2 then { u with c := u.c ||| BitVec.twoPow 64 (n % 64).toNat } else { u with d := u.d ||| BitVec.twoPow 64 (n % 64).toNat }
theorem W4.put_rep {u : W4} {S : Int → Prop} (h : u.Rep S) {n : Int} (h0 : 0 ≤ n) (h1 : n < 256) : (u.put n).Rep (fun m => S m ∨ m = n) := fun m m0 m1 => by
  show _ ↔ S m ∨ m = n
  rw [← h m m0 m1]
  have key : ∀ (w : BitVec 64), (w ||| BitVec.twoPow 64 (n % 64).toNat).getLsbD (m % 64).toNat = (w.getLsbD (m % 64).toNat || decide (m % 64 = n % 64)) := fun w => by
    rw [BitVec.getLsbD_or, BitVec.getLsbD_twoPow]
    congr 1
    have : (m % 64).toNat < 64 := by omega
    rw [Bool.eq_iff_iff]
    simp [this]
    omega
  unfold W4.put W4.has W4.sel
  have hn : n / 64 = 0 ∨ n / 64 = 1 ∨ n / 64 = 2 ∨ n / 64 = 3 := by omega
  have hm : m / 64 = 0 ∨ m / 64 = 1 ∨ m / 64 = 2 ∨ m / 64 = 3 := by omega
  by_cases e : m / 64 = n / 64
  · have hmn : (m = n) ↔ m % 64 = n % 64 := by omega
    rw [e, hmn]
    rcases hn with hn | hn | hn | hn <;> simp [hn, key]
  · have hmn : ¬ m = n := fun h => e (by rw [h])
    rw [or_iff_left hmn]
    rcases hn with hn | hn | hn | hn <;> rcases hm with hm | hm | hm | hm <;> first
      | exact absurd (hm.trans hn.symm) e
      | simp [hn, hm]
/-- Four words as numbers, as a function of the program hands them. -/
def W4.t (u : W4) : Int × Int × Int × Int := (Wd u.a, Wd u.b, Wd u.c, Wd u.d)
theorem W4.t_inj {u v : W4} (h : u.t = v.t) : u = v := by
  cases u
  cases v
  simp only [W4.t, Prod.mk.injEq] at h
  rw [Wd.inj h.1, Wd.inj h.2.1, Wd.inj h.2.2.1, Wd.inj h.2.2.2]
end Go.Bw
