/- Strings as lists of bytes: one rule for each operation; what a body-less function of the library hands back. Conditions: none. -/
import Derived.Test.YtbkooifhcekpmaaGreatBwEqs
import Derived.Laws.Strings2
import Derived.Laws.Strings3
import Derived.Laws.Slices
import Derived.Lib.Bytealg
set_option linter.unusedVariables false
set_option linter.unusedSimpArgs false
set_option linter.unusedSectionVars false
namespace Go.Bw
open Go Go.RowKit

/-- A string's bytes. -/
abbrev Bs := List UInt8
def Fl.bs : Fl Bs := ⟨1, fun x => [.string ⟨x.toArray⟩], fun _ => rfl, fun _ u hu => by simp at hu; subst hu; rfl, by decide⟩
def bseq (x y : Bs) : Bool := seq ⟨x.toArray⟩ ⟨y.toArray⟩
def bslt (x y : Bs) : Bool := slt ⟨x.toArray⟩ ⟨y.toArray⟩
/-- A string's byte. -/
def bat (x : Bs) (i : Int) : Int := ((x.getD i.toNat 0).toNat : Int)
/-- A part of a string. -/
def bsl (x : Bs) (i j : Int) : Bs := (x.drop i.toNat).take (j.toNat - i.toNat)
section
variable {P : Program} [Tys P] {os : List Oper} {Q : Exit → Act → World → Prop} {rest : List Oper} {n : Nat} {ds : List Deferred} {R : Res} {env : List (Nat × Value)} {l l' : List HProp}
variable {d ty t : Nat} {pos : String} {af : Array Edge} {g : Option (Nat × Bool)} {dd : Option Nat} {xs ys : Bs}
theorem bs_size (xs : Bs) : (ByteArray.mk xs.toArray).size = xs.length := by simp [ByteArray.size]
theorem Y.ixStr {x y : Operand} {i : Int} {k : IntKind} {ii : TI} (hi : ti P t = some ii) (hk : ii.k = .string) (hx : ev env x = some (.string ⟨xs.toArray⟩)) (hy : ev env y = some (.int k i)) (h0 : 0 ≤ i) (h1 : i < (xs.length : Int)) :
    Y P n ds R env l ⟨dd, .index t x y, ty, pos, af, g⟩ (.int .u8 (bat xs i)) := fun a w e hs => by
  have hc : 0 ≤ i ∧ i < (ByteArray.mk xs.toArray).size := ⟨h0, by rw [bs_size]; exact h1⟩
  have h2 : i.toNat < xs.length := by omega
  simp only [execOp, e.ev hx, e.ev hy, Sem.run_bind, run_index_string (P := P) w t _ k i ((ti_ok hi).string hk), dif_pos hc, Result.andThen, Sem.run_pure]
  congr 3
  unfold bat
  rw [List.getD_eq_getElem?_getD, List.getElem?_eq_getElem h2]
  rfl
theorem Y.slStrLH {x y z : Operand} {i j : Int} {k k' : IntKind} {ii : TI} (hi : ti P t = some ii) (hk : ii.k = .string) (hx : ev env x = some (.string ⟨xs.toArray⟩)) (hy : ev env y = some (.int k i)) (hz : ev env z = some (.int k' j)) (h0 : 0 ≤ i) (h1 : i ≤ j) (h2 : j ≤ (xs.length : Int)) :
    Y P n ds R env l ⟨dd, .slice t x (some y) (some z) none, ty, pos, af, g⟩ (.string ⟨(bsl xs i j).toArray⟩) := fun a w e hs => by
  have ht := (ti_ok hi).string hk
  simp only [execOp, e.ev hx, e.ev hy, e.ev hz, Option.map_none, Option.map_some, Sem.run_bind, run_sliceAt_string (P := P) w t _ _ _ _ ht, run_slice_string (P := P) w t _ k k' i j ht h0 h1 (by rw [bs_size]; exact h2), Result.andThen, Sem.run_pure, ByteArray.extract_mk]
  rfl
theorem Y.slStrL {x y : Operand} {i : Int} {k : IntKind} {ii : TI} (hi : ti P t = some ii) (hk : ii.k = .string) (hx : ev env x = some (.string ⟨xs.toArray⟩)) (hy : ev env y = some (.int k i)) (h0 : 0 ≤ i) (h1 : i ≤ (xs.length : Int)) :
    Y P n ds R env l ⟨dd, .slice t x (some y) none none, ty, pos, af, g⟩ (.string ⟨(xs.drop i.toNat).toArray⟩) := fun a w e hs => by
  have ht := (ti_ok hi).string hk
  have hc : 0 ≤ i ∧ i ≤ (xs.length : Int) := ⟨h0, h1⟩
  have hl : (xs.drop i.toNat).take (xs.length - i.toNat) = xs.drop i.toNat := List.take_of_length_le (by simp)
  simp only [execOp, e.ev hx, e.ev hy, Option.map_none, Option.map_some, Sem.run_bind, run_sliceAt_string (P := P) w t _ _ _ _ ht, run_slice_string_from_if (P := P) w t _ k i ht, if_pos hc, Result.andThen, Sem.run_pure, ByteArray.extract_mk, bs_size, hl]
theorem Y.slStrH {x z : Operand} {j : Int} {k : IntKind} {ii : TI} (hi : ti P t = some ii) (hk : ii.k = .string) (hx : ev env x = some (.string ⟨xs.toArray⟩)) (hz : ev env z = some (.int k j)) (h0 : 0 ≤ j) (h1 : j ≤ (xs.length : Int)) :
    Y P n ds R env l ⟨dd, .slice t x none (some z) none, ty, pos, af, g⟩ (.string ⟨(xs.take j.toNat).toArray⟩) := fun a w e hs => by
  have ht := (ti_ok hi).string hk
  have hc : 0 ≤ j ∧ j ≤ ((ByteArray.mk xs.toArray).size : Int) := ⟨h0, by rw [bs_size]; exact h1⟩
  simp only [execOp, e.ev hx, e.ev hz, Option.map_none, Option.map_some, Sem.run_bind, run_sliceAt_string (P := P) w t _ _ _ _ ht, run_slice_string_to_if (P := P) w t _ k j ht, if_pos hc, Result.andThen, Sem.run_pure, ByteArray.extract_mk, List.drop_zero, Nat.sub_zero]
theorem Y.addStr {x y : Operand} {yt : Nat} (hx : ev env x = some (.string ⟨xs.toArray⟩)) (hy : ev env y = some (.string ⟨ys.toArray⟩)) (h : (xs.length : Int) + (ys.length : Int) ≤ 9223372036854775807) :
    Y P n ds R env l ⟨dd, .binOp .add t x y yt, ty, pos, af, g⟩ (.string ⟨(xs ++ ys).toArray⟩) := fun a w e hs => by
  have hm : ¬ (((ByteArray.mk xs.toArray).size + (ByteArray.mk ys.toArray).size : Nat) : Int) > IntKind.i64.max := by
    rw [bs_size, bs_size]
    simp only [IntKind.max, IntKind.signed, IntKind.bits]
    simp
    omega
  have ha : (ByteArray.mk xs.toArray) ++ (ByteArray.mk ys.toArray) = ByteArray.mk (xs ++ ys).toArray := by
    apply ByteArray.ext
    simp [ByteArray.data_append]
  simp [execOp, e.ev hx, e.ev hy, eqGuard, binOp, Op.stringOp, if_neg hm, ha]
  rw [bs_size, bs_size]
  exact h
/-! ### What the model stands in for -/
structure ExtOk (P : Program) (f : Nat) (x : Array Value → Sem Value) : Prop where
  ok : ∃ fn, P.funcs[f]? = some fn ∧ (fn.name == "runtime.NumGoroutine") = false ∧ fn.body.isNone = true ∧ Extern.findNext fn = none ∧ Extern.find fn = some x
theorem Y.ext {x : Operand} {zs : List Operand} {ts : Array Nat} {f : Nat} {vs : List Value} {v : Value} {ex : Array Value → Sem Value} (c : ExtOk P f ex) (hx : ev env x = some (.func (.func f) #[] #[])) (hv : vals env zs = some vs) (hr : ∀ w, (ex vs.toArray).run P w = .ok v w) :
    Y P n ds R env l ⟨dd, .call ⟨.value x, zs.toArray, ts⟩, ty, pos, af, g⟩ v := fun a w e hs => by
  obtain ⟨fn, h1, h2, h3, h4, h5⟩ := c.ok
  have := vals_ok e hv
  simp [execOp, resolve, Deferred.ofValue, invoke, e.ev hx, run_callFunc_extern h1 h2 h3 h4 h5, this, hr, Result.andThen]
end
theorem run_cmpstr {P : Program} (x y : Bs) (w : World) : (Extern.BytealgCompare.compare #[.string ⟨x.toArray⟩, .string ⟨y.toArray⟩]).run P w = .ok (.int .i64 (Lib.compareBytes x y)) w := Lib.run_compareString _ _ w
theorem run_ixbyte {P : Program} (x : Bs) (c : Int) (w : World) : (Extern.BytealgIndexByte.indexByte #[.string ⟨x.toArray⟩, .int .u8 c]).run P w = .ok (.int .i64 (Lib.indexByte x c.toNat.toUInt8)) w := Lib.run_indexByteString _ _ w
/-! ### Facts on bytes -/
theorem bytes_toList (x : Bs) : (ByteArray.mk x.toArray).toList = x := by
  rw [Lib.toList_data]
theorem bseq_iff {x y : Bs} : bseq x y = true ↔ x = y := by
  unfold bseq seq
  rw [bytes_toList, bytes_toList]
  simp
end Go.Bw
