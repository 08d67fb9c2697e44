/- Division, shifts, comparison with nil, whole slices appended, rows of rows. Conditions: none. -/
import Derived.Test.YtbkooifhcekpmaaGreatBwCall
set_option linter.unusedVariables false
set_option linter.unusedSimpArgs false
set_option linter.unusedSectionVars false
namespace Go.Bw
open Go Go.RowKit

section
variable {P : Program} [Tys P] {os : List Oper} {Q : Exit → Act → World → Prop} {rest : List Oper} {n : Nat} {ds : List Deferred} {R : Res} {env : List (Nat × Value)} {l l' : List HProp}
variable {d ty : Nat} {pos : String} {af : Array Edge} {g : Option (Nat × Bool)} {α : Type} [Inhabited α] {F : Fl α} {e t : Nat} {A : Option Addr} {c m : Nat} {xs ys : List α} {K : Act → World → Prop} {dd : Option Nat}
theorem Y.rem {x y : Operand} {k : IntKind} {a b : Int} {yt : Nat} (hx : ev env x = some (.int k a)) (hy : ev env y = some (.int k b)) (hb : ¬ b = 0) : Y P n ds R env l ⟨dd, .binOp .rem t x y yt, ty, pos, af, g⟩ (.int k (a.tmod b)) := fun a' w e hs => by
  simp [execOp, e.ev hx, e.ev hy, eqGuard, binOp, Op.intDiv, hb]
theorem Y.quo {x y : Operand} {k : IntKind} {a b : Int} {yt : Nat} (hx : ev env x = some (.int k a)) (hy : ev env y = some (.int k b)) (hb : ¬ b = 0) : Y P n ds R env l ⟨dd, .binOp .quo t x y yt, ty, pos, af, g⟩ (.int k (k.wrap (a.tdiv b))) := fun a' w e hs => by
  simp [execOp, e.ev hx, e.ev hy, eqGuard, binOp, Op.intDiv, hb]
def shl (k : IntKind) (a b : Int) : Int := k.wrap (a * 2 ^ (min b.toNat k.bits))
def shr (k : IntKind) (a b : Int) : Int := a.fdiv (2 ^ (min b.toNat k.bits))
theorem Y.shl {x y : Operand} {k k' : IntKind} {a b : Int} {yt : Nat} (hx : ev env x = some (.int k a)) (hy : ev env y = some (.int k' b)) (hb : 0 ≤ b) : Y P n ds R env l ⟨dd, .binOp .shl t x y yt, ty, pos, af, g⟩ (.int k (Bw.shl k a b)) := fun a' w e hs => by
  simp [execOp, e.ev hx, e.ev hy, eqGuard, binOp, Op.shift, Int.not_lt.2 hb, Bw.shl]
theorem Y.shr {x y : Operand} {k k' : IntKind} {a b : Int} {yt : Nat} (hx : ev env x = some (.int k a)) (hy : ev env y = some (.int k' b)) (hb : 0 ≤ b) : Y P n ds R env l ⟨dd, .binOp .shr t x y yt, ty, pos, af, g⟩ (.int k (Bw.shr k a b)) := fun a' w e hs => by
  simp [execOp, e.ev hx, e.ev hy, eqGuard, binOp, Op.shift, Int.not_lt.2 hb, Bw.shr]
/-- A slice held against nil. -/
theorem run_eqIn_nil (d : Nat) {t e : Nat} (h : P.underlying t = some (.slice e)) (A : Option Addr) (m c : Nat) (w : World) : (Op.equalIn (d + 1) t (.slice A m c) (.slice none 0 0)).run P w = .ok A.isNone w := by
  cases A <;> simp [Op.equalIn, run_underlying h]
theorem run_eq_nil {t e : Nat} (h : P.underlying t = some (.slice e)) (A : Option Addr) (m c : Nat) (w : World) : (Op.equal t (.slice A m c) (.slice none 0 0)).run P w = .ok A.isNone w := run_eqIn_nil 9999 h A m c w
theorem Y.eqNil {x y : Operand} {yt : Nat} {ii : TI} (hi : ti P t = some ii) (hk : ii.k = .slice e) (hx : ev env x = some (.slice A m c)) (hy : ev env y = some (.slice none 0 0)) : Y P n ds R env l ⟨dd, .binOp .eql t x y yt, ty, pos, af, g⟩ (.bool A.isNone) := fun a' w e0 hs => by
  simp [execOp, e0.ev hx, e0.ev hy, eqGuard, binOp, run_eq_nil ((ti_ok hi).slice hk)]
theorem Y.neNil {x y : Operand} {yt : Nat} {ii : TI} (hi : ti P t = some ii) (hk : ii.k = .slice e) (hx : ev env x = some (.slice A m c)) (hy : ev env y = some (.slice none 0 0)) : Y P n ds R env l ⟨dd, .binOp .neq t x y yt, ty, pos, af, g⟩ (.bool (!A.isNone)) := fun a' w e0 hs => by
  simp [execOp, e0.ev hx, e0.ev hy, eqGuard, binOp, run_eq_nil ((ti_ok hi).slice hk)]

/-! ### A whole slice appended -/
/-- From where elements are read, nothing let in. -/
def SrcE {α : Type} (R : Res) (F : Fl α) (l : List HProp) (A : Option Addr) (ys : List α) : Prop :=
  ∀ w, sat R l w → (A = none ∧ ys = []) ∨ ∃ ad, A = some ad ∧ ∀ j u, (ys.flatMap F.enc)[j]? = some u → w.cell? (ad.add j) = some u
theorem SrcE.own {B : Option Addr} {cb : Nat} (f : Frt l (row F e B m cb ys) l') : SrcE R F l B ys := fun w hs => by
  obtain ⟨h, o, s⟩ := (hs.frt f).head
  have hm := row_len o
  subst hm
  by_cases hn : ys = []
  · cases B with
    | none => exact .inl ⟨rfl, hn⟩
    | some ad => exact .inr ⟨ad, rfl, fun j u hu => by rw [hn] at hu; simp at hu⟩
  · exact .inr (Src.own f hn w hs)
theorem SrcE.rd {B : Option Addr} (hr : RdS F.rep R.heap B ys) : SrcE R F l B ys := fun w hs => by
  by_cases hn : ys = []
  · cases B with
    | none => exact .inl ⟨rfl, hn⟩
    | some ad => exact .inr ⟨ad, rfl, fun j u hu => by rw [hn] at hu; simp at hu⟩
  · exact .inr (Src.rd hr hn w hs)
theorem run_append_none (t ty e : TypeId) (j : TI) (ht : P.underlying t = some (.slice e)) (hj : ti P e = some j) (A : Option Addr) (a c cb : Nat) (h : a ≤ c) (w : World) :
    (Builtin.append_ #[t, t] ty #[.slice A a c, .slice none 0 cb]).run P w = .ok (.slice A a c) w := by
  have hs := (ti_ok hj).run_sizeOf w
  cases A <;> simp [Builtin.append_, run_underlying ht, hs, Builtin.lenOf, Builtin.firstCells, h, storeCells]
theorem At.appendAll (hg : grd os env g = some true) {x y : Operand} {B : Option Addr} {k cb bytes : Nat} {ii j : TI} (f : Frt l (row F e A m c xs) l') (sr : SrcE R F l B ys) (hk2 : ys.length = k) (hi : ti P t = some ii) (hk : ii.k = .slice e) (hj : ti P e = some j) (hjs : j.size = F.sz) (hjb : j.bytes = bytes)
    (hx : ev env x = some (.slice A m c)) (hy : ev env y = some (.slice B k cb))
    (hz : j.zero.length = j.size) (hb : (m + k) * bytes ≤ 140737488355328) (hb0 : 0 < bytes) (hd : Nat.blt d n = true)
    (h : ∀ A' c', At n ds R ((d, .slice A' (xs ++ ys).length c') :: env) (row F e A' (xs ++ ys).length c' (xs ++ ys) :: l') (wpList P os.toArray Q rest)) :
    At n ds R env l (wpList P os.toArray Q (⟨some d, .call ⟨.builtin .append, #[x, y], #[t, t]⟩, ty, pos, af, g⟩ :: rest)) := by
  subst hk2
  by_cases hB : B = none ∧ ys = []
  · obtain ⟨rfl, rfl⟩ := hB
    refine At.rowLen f fun hm => ?_
    subst hm
    refine op_ex hg rfl hd fun a w e0 hs => ?_
    have hs1 := hs.frt f
    have hle : xs.length ≤ c := let ⟨_, o, _⟩ := hs1.head; row_le o
    refine ⟨.slice A xs.length c, w, row F e A xs.length c xs :: l', ?_, hs1, by have := h A c; simpa using this⟩
    have hr := run_append_none t ty e j ((ti_ok hi).slice hk) hj A xs.length c cb hle w
    have hy' := e0.ev hy
    simp only [List.length_nil] at hy'
    simp only [execOp, resolve, invoke, builtin, Sem.run_bind, Sem.run_pure, Result.andThen_ok, List.map_toArray, List.map_cons, List.map_nil, e0.ev hx, hy', hr]
  · refine At.append hg f (fun w hs => ?_) hi hk hj hjs hjb hx hy hz hb hb0 hd h
    rcases sr w hs with ⟨h1, h2⟩ | h1
    · exact (hB ⟨h1, h2⟩).elim
    · exact h1
end
end Go.Bw
