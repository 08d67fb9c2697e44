/- Literals of arrays; structs of numbers compared. Conditions: none. -/
import Derived.Test.YtbkooifhcekpmaaGreatBwMix
import Derived.Laws.StructEq
set_option linter.unusedVariables false
set_option linter.unusedSimpArgs false
set_option linter.unusedSectionVars false
namespace Go.Bw
open Go Go.RowKit

section
variable {P : Program} [Tys P] {os : List Oper} {Q : Exit → Act → World → Prop} {rest : List Oper} {n : Nat} {ds : List Deferred} {R : Res} {env : List (Nat × Value)} {l l' : List HProp}
variable {d ty : Nat} {pos : String} {af : Array Edge} {g : Option (Nat × Bool)} {e t : Nat} {dd : Option Nat} {w : World}
theorem Y.buildA {parts : Array (Nat × Operand)} {is : List Nat} {xo : List Operand} {vs cs : List Value} {m : Nat} {ii j : TI} (hi : ti P t = some ii) (hk : ii.k = .array m e) (hj : ti P e = some j) (hp : parts.toList = is.zip xo) (hv : vals env xo = some vs)
    (hf : Instr.fill (fun i => some (i * j.size, j.size)) ii.zero.toArray (is.zip vs) = some cs.toArray) : Y P n ds R env l ⟨dd, .build t parts, ty, pos, af, g⟩ (.agg cs.toArray) := fun a w e0 hs => by
  have hu := (ti_ok hi).array hk
  obtain ⟨z, hz, hc⟩ := run_zero hi w
  have h1 := vals_ok e0 hv
  have h2 : parts.map (fun p => (p.1, a.eval p.2)) = (is.zip vs).toArray := by
    apply Array.ext'
    rw [Array.toList_map, hp, ← h1]
    clear hp hv hf h1
    induction is generalizing xo with
    | nil => simp
    | cons i is ih => cases xo with
      | nil => simp
      | cons x xo => simpa using ih
  simp only [execOp, Instr.build, Sem.run_bind, hz, Result.andThen, run_underlying hu, hc, (ti_ok hj).run_sizeOf, h2, hf, Sem.run_pure]
theorem Y.ixArrK {x y : Operand} {i : Int} {k : IntKind} {m q off : Nat} {b off0 : Nat} {ii j : TI} (hi : ti P t = some ii) (hk : ii.k = .array m e) (hx : ev env x = some (.pointer (some ⟨b, off0, none⟩))) (hy : ev env y = some (.int k i)) (hj : ti P e = some j) (h0 : 0 ≤ i) (h1 : i < (m : Int)) (he : i = (q : Int)) (ho : off = off0 + q * j.size) :
    Y P n ds R env l ⟨dd, .indexAddr t x y, ty, pos, af, g⟩ (.pointer (some ⟨b, off, none⟩)) := by
  subst he
  have := Y.ixArr (P := P) (n := n) (ds := ds) (R := R) (l := l) (ty := ty) (pos := pos) (af := af) (g := g) (dd := dd) hi hk hx hy hj h0 h1
  rw [add_lit] at this
  rw [ho]
  simpa using this
/-- Numbers and truths side by side, compared. -/
def eqcs (P : Program) [Tys P] : List (Nat × Nat) → List Value → List Value → Option Bool
  | [], _, _ => some true
  | (ft, off) :: r, xs, ys => match ti P ft with
    | some j => match j.k, partOf P ft off xs, partOf P ft off ys with
      | .int _, some (.int k a), some (.int k' b) => if k = k' then (eqcs P r xs ys).map (decide (a = b) && ·) else none
      | .bool, some (.bool a), some (.bool b) => (eqcs P r xs ys).map ((a == b) && ·)
      | .string, some (.string a), some (.string b) => (eqcs P r xs ys).map (seq a b && ·)
      | _, _, _ => none
    | none => none
theorem beq_bytes (a b : ByteArray) : (a == b) = seq a b := beq_toListBytes a b
theorem run_eqcs {xs ys : List Value} : ∀ {fl : List Field} {fs : List (Nat × Nat)} {r : Bool}, fl.map (fun f => (f.type, f.offset)) = fs → fl.all (fun f => f.name != "_") = true → eqcs P fs xs ys = some r →
    (Op.eqFields (d + 1) xs.toArray ys.toArray fl).run P w = .ok r w
  | [], _, r, rfl, _, h => by cases h; simp [Op.eqFields]
  | f :: fl, _, r, rfl, hn, h => by
    simp only [List.all_cons, Bool.and_eq_true] at hn
    have hn' : f.name ≠ "_" := by simpa using hn.1
    simp only [List.map_cons, eqcs] at h
    split at h
    · rename_i j hj
      split at h
      · rename_i hk hx hy
        split at h
        · rename_i hkk
          subst hkk
          obtain ⟨q, hq, rfl⟩ := Option.map_eq_some_iff.1 h
          rw [Op.eqFields]
          have hu := (ti_ok hj).int hk
          have ih := run_eqcs rfl hn.2 hq
          simp only [if_pos hn', Sem.run_bind, run_part hx, run_part hy, Result.andThen_ok, Op.equalIn, run_underlying hu, if_true, Sem.run_pure, int_beq]
          split
          · rename_i hc
            simp only [Bool.not_eq_true'] at hc
            rw [hc]
            rfl
          · rename_i hc
            simp only [Bool.not_eq_true', Bool.not_eq_false] at hc
            rw [hc, ih]
            rfl
        · cases h
      · rename_i hk hx hy
        obtain ⟨q, hq, rfl⟩ := Option.map_eq_some_iff.1 h
        rw [Op.eqFields]
        have hu := (ti_ok hj).bool hk
        have ih := run_eqcs rfl hn.2 hq
        simp only [if_pos hn', Sem.run_bind, run_part hx, run_part hy, Result.andThen_ok, Op.equalIn, run_underlying hu, Sem.run_pure]
        split
        · rename_i hc
          simp only [Bool.not_eq_true'] at hc
          rw [hc]
          rfl
        · rename_i hc
          simp only [Bool.not_eq_true', Bool.not_eq_false] at hc
          rw [hc, ih]
          rfl
      · rename_i hk hx hy
        obtain ⟨q, hq, rfl⟩ := Option.map_eq_some_iff.1 h
        rw [Op.eqFields]
        have hu := (ti_ok hj).string hk
        have ih := run_eqcs rfl hn.2 hq
        simp only [if_pos hn', Sem.run_bind, run_part hx, run_part hy, Result.andThen_ok, Op.equalIn, run_underlying hu, Sem.run_pure]
        rw [← beq_bytes]
        split
        · rename_i hc
          simp only [Bool.not_eq_true'] at hc
          rw [hc]
          rfl
        · rename_i hc
          simp only [Bool.not_eq_true', Bool.not_eq_false] at hc
          rw [hc, ih]
          rfl
      · cases h
    · cases h
/-- No field goes unnamed. -/
def named (P : Program) (t : Nat) : Bool := (P.fieldsOf t).toList.all (fun f => f.name != "_")
theorem run_eqSt {fs : List (Nat × Nat)} {xs ys : List Value} {ii : TI} {r : Bool} (hi : ti P t = some ii) (hk : ii.k = .struct fs) (hn : named P t = true) (hp : P.stoodInHeld t = false) (h : eqcs P fs xs ys = some r) :
    (Op.equal t (.agg xs.toArray) (.agg ys.toArray)).run P w = .ok r w := by
  obtain ⟨fl, hu, hm⟩ := (ti_ok hi).struct hk
  have hf : P.fieldsOf t = fl := by simp [Program.fieldsOf, hu]
  show (Op.equalIn (9999 + 1) t (.agg xs.toArray) (.agg ys.toArray)).run P w = _
  rw [run_equalIn_struct (P := P) (w := w) 9999 t xs.toArray ys.toArray (by rw [hf]; exact hu) hp, hf]
  unfold named at hn
  rw [hf] at hn
  exact run_eqcs hm hn h
theorem Y.eqSt {x y : Operand} {yt : Nat} {fs : List (Nat × Nat)} {xs ys : List Value} {ii : TI} {r : Bool} (hi : ti P t = some ii) (hk : ii.k = .struct fs) (hx : ev env x = some (.agg xs.toArray)) (hy : ev env y = some (.agg ys.toArray)) (hn : named P t = true) (hp : P.stoodInHeld t = false) (hgt : P.eqGuardType P.depth t = false) (h : eqcs P fs xs ys = some r) :
    Y P n ds R env l ⟨dd, .binOp .eql t x y yt, ty, pos, af, g⟩ (.bool r) := fun a' w e0 hs => by
  simp [execOp, e0.ev hx, e0.ev hy, eqGuard, binOp, run_eqSt hi hk hn hp h, hgt]
theorem Y.neSt {x y : Operand} {yt : Nat} {fs : List (Nat × Nat)} {xs ys : List Value} {ii : TI} {r : Bool} (hi : ti P t = some ii) (hk : ii.k = .struct fs) (hx : ev env x = some (.agg xs.toArray)) (hy : ev env y = some (.agg ys.toArray)) (hn : named P t = true) (hp : P.stoodInHeld t = false) (hgt : P.eqGuardType P.depth t = false) (h : eqcs P fs xs ys = some r) :
    Y P n ds R env l ⟨dd, .binOp .neq t x y yt, ty, pos, af, g⟩ (.bool (!r)) := fun a' w e0 hs => by
  simp [execOp, e0.ev hx, e0.ev hy, eqGuard, binOp, run_eqSt hi hk hn hp h, hgt]
end
end Go.Bw
