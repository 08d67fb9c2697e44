/- Arrays of numbers compared; recursion: what a function that calls itself comes to. Conditions: none. -/
import Derived.Test.YtbkooifhcekpmaaGreatBwAgg
import Derived.ChangeKeysEq
set_option linter.unusedVariables false
set_option linter.unusedSimpArgs false
set_option linter.unusedSectionVars false
namespace Go.Bw
open Go Go.RowKit

section
variable {P : Program} [Tys P] {os : List Oper} {Q : Exit → Act → World → Prop} {rest : List Oper} {n : Nat} {ds : List Deferred} {R : Res} {env : List (Nat × Value)} {l l' : List HProp}
variable {d ty : Nat} {pos : String} {af : Array Edge} {g : Option (Nat × Bool)} {e t : Nat} {dd : Option Nat} {w : World}
/-- Numbers at some places of two arrays, compared. -/
def eqia (xs ys : List Value) : List Nat → Option Bool
  | [] => some true
  | i :: is => match xs[i]?, ys[i]? with
    | some (.int k a), some (.int k' b) => if k = k' then (eqia xs ys is).map (decide (a = b) && ·) else none
    | _, _ => none
theorem run_eqia {xs ys : List Value} {j : TI} {kk : IntKind} (hj : ti P e = some j) (hk : j.k = .int kk) (hs : j.size = 1) (hc : P.cellsOf e = 1) : ∀ {is : List Nat} {r : Bool}, eqia xs ys is = some r →
    (Op.eqItems (d + 1) e (P.cellsOf e) xs.toArray ys.toArray is).run P w = .ok r w
  | [], r, h => by cases h; simp [Op.eqItems]
  | i :: is, r, h => by
    unfold eqia at h
    split at h
    · rename_i k a k' b hx hy
      split at h
      · rename_i hkk
        subst hkk
        obtain ⟨q, hq, rfl⟩ := Option.map_eq_some_iff.1 h
        have px : partOf P e (i * P.cellsOf e) xs = some (.int k a) := by unfold partOf; rw [hj]; simp [hk, agg, hc, hx]
        have py : partOf P e (i * P.cellsOf e) ys = some (.int k b) := by unfold partOf; rw [hj]; simp [hk, agg, hc, hy]
        have hu := (ti_ok hj).int hk
        have ih := run_eqia hj hk hs hc hq
        simp only [Op.eqItems, Sem.run_bind, run_part px, run_part py, Result.andThen_ok, Op.equalIn, run_underlying hu, if_true, Sem.run_pure, int_beq]
        by_cases hab : a = b
        · subst hab
          simp only [decide_true, Bool.true_and]
          simpa using ih
        · simp [hab]
      · cases h
    · cases h
theorem run_eqAr {m : Nat} {xs ys : List Value} {ii j : TI} {kk : IntKind} {r : Bool} (hi : ti P t = some ii) (hk : ii.k = .array m e) (hj : ti P e = some j) (hjk : j.k = .int kk) (hjs : j.size = 1) (h : eqia xs ys (List.range m) = some r) :
    (Op.equal t (.agg xs.toArray) (.agg ys.toArray)).run P w = .ok r w := by
  have hu := (ti_ok hi).array hk
  obtain ⟨x, z, hx, h1, _⟩ := (ti_ok hj).info
  have hc : P.cellsOf e = 1 := by
    have a := run_sizeOf (P := P) w hx
    rw [(ti_ok hj).run_sizeOf, hjs] at a
    injection a with a
    exact a.symm
  show (Op.equalIn (9999 + 1) t (.agg xs.toArray) (.agg ys.toArray)).run P w = _
  rw [run_equalIn_array w 9999 xs.toArray ys.toArray hu hx]
  exact run_eqia hj hjk hjs hc h
theorem Y.eqAr {x y : Operand} {yt m : Nat} {xs ys : List Value} {ii j : TI} {kk : IntKind} {r : Bool} (hi : ti P t = some ii) (hk : ii.k = .array m e) (hj : ti P e = some j) (hjk : j.k = .int kk) (hjs : j.size = 1) (hx : ev env x = some (.agg xs.toArray)) (hy : ev env y = some (.agg ys.toArray)) (hgt : P.eqGuardType P.depth t = false) (h : eqia xs ys (List.range m) = some r) :
    Y P n ds R env l ⟨dd, .binOp .eql t x y yt, ty, pos, af, g⟩ (.bool r) := fun a' w e0 hs => by
  simp [execOp, e0.ev hx, e0.ev hy, eqGuard, binOp, run_eqAr hi hk hj hjk hjs h, hgt]
theorem Y.neAr {x y : Operand} {yt m : Nat} {xs ys : List Value} {ii j : TI} {kk : IntKind} {r : Bool} (hi : ti P t = some ii) (hk : ii.k = .array m e) (hj : ti P e = some j) (hjk : j.k = .int kk) (hjs : j.size = 1) (hx : ev env x = some (.agg xs.toArray)) (hy : ev env y = some (.agg ys.toArray)) (hgt : P.eqGuardType P.depth t = false) (h : eqia xs ys (List.range m) = some r) :
    Y P n ds R env l ⟨dd, .binOp .neq t x y yt, ty, pos, af, g⟩ (.bool (!r)) := fun a' w e0 hs => by
  simp [execOp, e0.ev hx, e0.ev hy, eqGuard, binOp, run_eqAr hi hk hj hjk hjs h, hgt]
end
/-! ### Recursion -/
/-- What a function comes to, if it ever does: 'n k': with k calls in one another at most. -/
noncomputable def recF {ρ : Type} (n : Nat → Option ρ) : Option ρ := open Classical in if h : ∃ r k, n k = some r then some (Classical.choose h) else none
theorem recF_some {ρ : Type} {n : Nat → Option ρ} {r : ρ} (h : recF n = some r) : ∃ k, n k = some r := by
  unfold recF at h
  split at h
  · rename_i hx
    cases h
    exact Classical.choose_spec hx
  · cases h
theorem recF_of {ρ : Type} {n : Nat → Option ρ} {Q : ρ → Prop} (h1 : ∃ k, (n k).isSome = true) (h2 : ∀ k r, n k = some r → Q r) : ∃ r, recF n = some r ∧ Q r := by
  obtain ⟨k, hk⟩ := h1
  obtain ⟨r, hr⟩ := Option.isSome_iff_exists.1 hk
  have hx : ∃ r k, n k = some r := ⟨r, k, hr⟩
  refine ⟨Classical.choose hx, ?_, ?_⟩
  · unfold recF
    rw [dif_pos hx]
  · obtain ⟨k, hk⟩ := Classical.choose_spec hx
    exact h2 k _ hk
end Go.Bw
