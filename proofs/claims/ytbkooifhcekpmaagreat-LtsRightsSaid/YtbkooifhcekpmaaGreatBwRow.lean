/- Rows of plain elements: told as lists; one rule for each operation on them. Conditions: none. -/
import Derived.Test.YtbkooifhcekpmaaGreatBwMem
import Derived.Maps.AppendAt
set_option linter.unusedVariables false
set_option linter.unusedSimpArgs false
set_option linter.unusedSectionVars false
namespace Go.Bw
open Go Go.RowKit

/-- A plain type: its cells are told by its value alone. -/
structure Fl (α : Type) where
  sz : Nat
  enc : α → List Value
  len : ∀ x, (enc x).length = sz
  one : ∀ x, ∀ u ∈ enc x, u.oneCell' = true
  pos : 0 < sz
def Fl.int (k : IntKind) : Fl Int := ⟨1, fun x => [.int k x], fun _ => rfl, fun _ u hu => by simp at hu; subst hu; rfl, by decide⟩
def Fl.bool : Fl Bool := ⟨1, fun x => [.bool x], fun _ => rfl, fun _ u hu => by simp at hu; subst hu; rfl, by decide⟩
def Fl.str : Fl ByteArray := ⟨1, fun x => [.string x], fun _ => rfl, fun _ u hu => by simp at hu; subst hu; rfl, by decide⟩
/-- The element at a place. -/
def gt {α : Type} [Inhabited α] (xs : List α) (i : Int) : α := xs.getD i.toNat default
def st {α : Type} (xs : List α) (i : Int) (x : α) : List α := xs.set i.toNat x
theorem gt_some {α : Type} [Inhabited α] {xs : List α} {i : Int} (h0 : 0 ≤ i) (h1 : i < (xs.length : Int)) : xs[i.toNat]? = some (gt xs i) := by
  have h : i.toNat < xs.length := by omega
  simp [gt, List.getD_eq_getElem?_getD, List.getElem?_eq_getElem h]
theorem flat_len {α : Type} (F : Fl α) (xs : List α) : (xs.flatMap F.enc).length = xs.length * F.sz := by
  induction xs with
  | nil => simp
  | cons x xs ih => simp [ih, F.len, Nat.add_mul, Nat.add_comm]
theorem flat_get {α : Type} (F : Fl α) : ∀ {xs : List α} {i : Nat} {x : α} {j : Nat}, xs[i]? = some x → j < F.sz → (xs.flatMap F.enc)[i * F.sz + j]? = (F.enc x)[j]?
  | [], _, _, _, h, _ => by simp at h
  | y :: xs, 0, x, j, h, hj => by
    simp at h
    subst h
    rw [List.flatMap_cons, Nat.zero_mul, Nat.zero_add, List.getElem?_append_left (by rw [F.len]; exact hj)]
  | y :: xs, i + 1, x, j, h, hj => by
    rw [List.flatMap_cons, List.getElem?_append_right (by rw [F.len, Nat.add_mul]; omega), F.len, show (i + 1) * F.sz + j - F.sz = i * F.sz + j from by rw [Nat.add_mul]; omega]
    exact flat_get F (by simpa using h) hj
theorem flat_one {α : Type} (F : Fl α) (xs : List α) : ∀ u ∈ xs.flatMap F.enc, u.oneCell' = true := fun u hu => by
  obtain ⟨x, _, h⟩ := List.mem_flatMap.1 hu
  exact F.one x u h
theorem flat_set {α : Type} (F : Fl α) : ∀ {xs : List α} {i : Nat} {x y : α}, xs[i]? = some x → (xs.set i y).flatMap F.enc = (xs.flatMap F.enc).take (i * F.sz) ++ F.enc y ++ (xs.flatMap F.enc).drop (i * F.sz + F.sz)
  | [], _, _, _, h => by simp at h
  | z :: xs, 0, x, y, h => by
    simp only [List.set_cons_zero, List.flatMap_cons, Nat.zero_mul, List.take_zero, List.nil_append, Nat.zero_add]
    rw [List.drop_append_of_le_length (by rw [F.len]; omega), List.drop_of_length_le (by rw [F.len]; omega), List.nil_append]
  | z :: xs, i + 1, x, y, h => by
    simp only [List.set_cons_succ, List.flatMap_cons]
    have ih := flat_set F (x := x) (y := y) (xs := xs) (i := i) (by simpa using h)
    rw [ih, show (i + 1) * F.sz = (F.enc z).length + i * F.sz from by rw [F.len, Nat.add_mul]; omega, Nat.add_assoc]
    simp [List.take_append, List.drop_append, List.take_of_length_le]

theorem put_take {α : Type} (cur vs : List α) (N base q sz : Nat) (h1 : base + sz ≤ N) (h2 : N ≤ cur.length) (h3 : q + vs.length ≤ sz) :
    (cur.take (base + q) ++ vs ++ cur.drop (base + q + vs.length)).take N = (cur.take N).take base ++ (((cur.drop base).take sz).take q ++ vs ++ ((cur.drop base).take sz).drop (q + vs.length)) ++ (cur.take N).drop (base + sz) := by
  obtain ⟨p, c1, rfl, hp⟩ : ∃ p c1, cur = p ++ c1 ∧ p.length = base := ⟨cur.take base, cur.drop base, by simp, by simp; omega⟩
  obtain ⟨e1, c2, rfl, he1⟩ : ∃ p c, c1 = p ++ c ∧ p.length = q := ⟨c1.take q, c1.drop q, by simp, by simp at h2 ⊢; omega⟩
  obtain ⟨e2, c3, rfl, he2⟩ : ∃ p c, c2 = p ++ c ∧ p.length = vs.length := ⟨c2.take vs.length, c2.drop vs.length, by simp, by simp at h2 ⊢; omega⟩
  obtain ⟨e3, c4, rfl, he3⟩ : ∃ p c, c3 = p ++ c ∧ p.length = sz - (q + vs.length) := ⟨c3.take (sz - (q + vs.length)), c3.drop (sz - (q + vs.length)), by simp, by simp at h2 ⊢; omega⟩
  subst hp he1
  have e : sz = e1.length + (vs.length + e3.length) := by omega
  subst e
  have hN : ∃ m, N = p.length + (e1.length + (vs.length + (e3.length + m))) := ⟨N - (p.length + (e1.length + (vs.length + e3.length))), by omega⟩
  obtain ⟨m, rfl⟩ := hN
  simp [List.take_append, List.drop_append, ← he2, List.take_of_length_le, List.drop_of_length_le, Nat.add_sub_cancel_left, Nat.add_assoc]

def row {α : Type} (F : Fl α) (e : Nat) (A : Option Addr) (n c : Nat) (xs : List α) : HProp := own e F.sz A n c (xs.flatMap F.enc)
theorem row_len {α : Type} {F : Fl α} {e : Nat} {A : Option Addr} {n c : Nat} {xs : List α} {h : PHeap} (o : row F e A n c xs h) : xs.length = n := by
  have := o.1
  rw [flat_len] at this
  exact Nat.eq_of_mul_eq_mul_right F.pos this
theorem row_some {α : Type} {F : Fl α} {e : Nat} {A : Option Addr} {c : Nat} {xs : List α} {h : PHeap} (o : row F e A xs.length c xs h) (hn : 0 < xs.length) :
    ∃ g cur, A = some ⟨g, 0, none⟩ ∧ h g = some (.cells cur e) ∧ xs.length ≤ c ∧ c ≤ maxLen ∧ cur.size = c * F.sz ∧ cur.toList.take (xs.length * F.sz) = xs.flatMap F.enc := by
  rcases o.2 with ⟨_, h0, _⟩ | h
  · omega
  · exact h
/-- The address of a cell of what a slice points to. -/
def elp (A : Option Addr) (k : Nat) : Value := match A with
  | some ad => .pointer (some (ad.add k))
  | none => .pointer none

section
variable {α : Type} [Inhabited α] {F : Fl α} {e : Nat} {A : Option Addr} {c : Nat} {xs : List α} {w : World}
theorem row_cell {h : PHeap} (o : row F e A xs.length c xs h) (s : Sub h (wh w)) {i : Int} (h0 : 0 ≤ i) (h1 : i < (xs.length : Int)) :
    ∃ ad, A = some ad ∧ ∀ j u, (F.enc (gt xs i))[j]? = some u → w.cell? ((ad.add (i.toNat * F.sz)).add j) = some u := by
  obtain ⟨g, cur, rfl, hg, h3, h4, h5, h6⟩ := row_some o (by omega)
  refine ⟨_, rfl, fun j u hu => ?_⟩
  have hj : j < F.sz := by rw [← F.len (gt xs i)]; exact (List.getElem?_eq_some_iff.1 hu).1
  rw [addr_add_add, add_lit, Nat.zero_add]
  have hc : w.cell? ⟨g, i.toNat * F.sz + j, none⟩ = cur[i.toNat * F.sz + j]? := by
    have := s g _ hg
    simp only [wh] at this
    simp [World.cell?, this]
  have hf := flat_get F (gt_some h0 h1) hj
  rw [← h6, List.getElem?_take] at hf
  have hlt : i.toNat * F.sz + j < xs.length * F.sz := by
    have : (i.toNat + 1) * F.sz ≤ xs.length * F.sz := Nat.mul_le_mul_right _ (by omega)
    rw [Nat.add_mul] at this
    omega
  rw [if_pos hlt] at hf
  rw [hc, ← hu, ← hf]
  simp
theorem sat_row_some {R : Res} {l : List HProp} (hs : sat R (row F e A xs.length c xs :: l) w) {i : Int} (h0 : 0 ≤ i) (h1 : i < (xs.length : Int)) : ∃ ad, A = some ad := by
  obtain ⟨h, o, s⟩ := hs.head
  obtain ⟨ad, e, _⟩ := row_cell o s h0 h1
  exact ⟨ad, e⟩
end
section
variable {P : Program} [Tys P] {os : List Oper} {Q : Exit → Act → World → Prop} {rest : List Oper} {n : Nat} {ds : List Deferred} {R : Res} {env : List (Nat × Value)} {l l' : List HProp}
variable {d ty : Nat} {pos : String} {af : Array Edge} {g : Option (Nat × Bool)} {α : Type} [Inhabited α] {F : Fl α} {e t : Nat} {A : Option Addr} {c : Nat} {xs : List α} {K : Act → World → Prop}
theorem stars_add {c : HProp} {l : List HProp} {h : PHeap} (hc : c (fun _ => none)) (s : stars l h) : stars (c :: l) h :=
  ⟨fun _ => none, h, hc, s, fun _ _ _ e => by (cases e), fun _ _ e => by (cases e), Sub.refl _⟩
/-- A nil slice is a row of nothing. -/
theorem At.nilRow (F : Fl α) (e : Nat) (h : At n ds R env (row F e none 0 0 [] :: l) K) : At n ds R env l K := fun a w e0 hs => h a w e0 (by
  obtain ⟨ok, k, s, d⟩ := hs
  exact ⟨ok, k, stars_add ⟨by simp, .inl ⟨rfl, by simp, rfl⟩⟩ s, d⟩)
/-- The address of an element. -/
theorem Y.ixOwn (f : Frt l (row F e A xs.length c xs) l') {x y : Operand} {i : Int} {k : IntKind} {ii : TI} {dd : Option Nat} (hi : ti P t = some ii) (hk : ii.k = .slice e) (hx : ev env x = some (.slice A xs.length c)) (hy : ev env y = some (.int k i))
    {j : TI} (hj : ti P e = some j) (hjs : j.size = F.sz) (h0 : 0 ≤ i) (h1 : i < (xs.length : Int)) :
    Y P n ds R env l ⟨dd, .indexAddr t x y, ty, pos, af, g⟩ (elp A (i.toNat * F.sz)) := fun a w e0 hs => by
  obtain ⟨ad, rfl⟩ := sat_row_some (hs.frt f) h0 h1
  simp only [execOp, e0.ev hx, e0.ev hy, Instr.indexAt, asIntOf, Sem.run_bind, Sem.run_pure, Result.andThen, run_underlying ((ti_ok hi).slice hk), Sem.run_ite, if_pos (show 0 ≤ i ∧ i < (xs.length : Int) from ⟨h0, h1⟩), (ti_ok hj).run_sizeOf, hjs, elp]
/-- An element, or a field of it, is read. -/
theorem Y.ldOwn (f : Frt l (row F e A xs.length c xs) l') {x : Operand} {i : Int} {q : Nat} {v : Value} {ii : TI} {dd : Option Nat} (hi : ti P t = some ii) (hx : ev env x = some (elp A (i.toNat * F.sz + q))) (h0 : 0 ≤ i) (h1 : i < (xs.length : Int))
    (hl : Nat.ble (q + ii.size) F.sz = true) (hz : Nat.blt 0 ii.size = true) (hv : partOf P t q (F.enc (gt xs i)) = some v) :
    Y P n ds R env l ⟨dd, .load t x, ty, pos, af, g⟩ v := fun a w e0 hs => by
  obtain ⟨h', o, s⟩ := (hs.frt f).head
  obtain ⟨ad, rfl, hc⟩ := row_cell o s h0 h1
  have hl' : q + ii.size ≤ F.sz := by simpa using hl
  have hlen := F.len (gt xs i)
  have := run_loadVar_cells (P := P) (w := w) (a := ad.add (i.toNat * F.sz + q)) (cs := ((F.enc (gt xs i)).drop q).take ii.size) (v := v) hi (by simp; omega) (fun j u hu => by
    have := hc _ _ (drop_take_get hu)
    rw [addr_add_add] at this ⊢
    rw [Nat.add_assoc]; exact this) (partOf_cut hi hz hv)
  simp only [execOp, e0.ev hx, elp, Instr.loadAt, Instr.sureAddr, Sem.run_bind, Sem.run_pure, Result.andThen, this]
/-- An element, or a field of it, is written. -/
theorem At.stOwn (f : Frt l (row F e A xs.length c xs) l') {x y : Operand} {i : Int} {q : Nat} {v : Value} {vs : List Value} {z : α} {ii : TI} (hg : grd os env g = some true) (hi : ti P t = some ii) (hx : ev env x = some (elp A (i.toNat * F.sz + q))) (hy : ev env y = some v)
    (h0 : 0 ≤ i) (h1 : i < (xs.length : Int)) (hv : v.cells.toList = vs) (hs : Nat.beq vs.length ii.size = true) (p : Put (F.enc (gt xs i)) q vs (F.enc z))
    (h : At n ds R env (row F e A xs.length c (st xs i z) :: l') (wpList P os.toArray Q rest)) :
    At n ds R env l (wpList P os.toArray Q (⟨none, .store t x y, ty, pos, af, g⟩ :: rest)) := op_sk hg rfl fun a w e0 hs0 => by
  have hs1 := hs0.frt f
  obtain ⟨h', o, s, k⟩ := hs1.upd
  obtain ⟨g, cur, rfl, hg, h3, h4, h5, h6⟩ := row_some o (by omega)
  obtain ⟨p1, p2⟩ := p.eq
  rw [F.len] at p1
  have hvc : v.cells = vs.toArray := by rw [← hv]
  have hgw : w.heap[g]? = some (.cells cur e) := s g _ hg
  have hgw' : w.heap[g]? = some (.cells cur.toList.toArray e) := by rw [hgw]
  have hlt : i.toNat * F.sz + F.sz ≤ xs.length * F.sz := by
    have : (i.toNat + 1) * F.sz ≤ xs.length * F.sz := Nat.mul_le_mul_right _ (by omega)
    rw [Nat.add_mul] at this
    omega
  have hcap : xs.length * F.sz ≤ c * F.sz := Nat.mul_le_mul_right _ h3
  have hone : ∀ u ∈ vs, u.oneCell' = true := fun u hu => F.one z u (by rw [p2]; simp [hu])
  have hrun := run_storeVar_cells (P := P) (w := w) hi (off := i.toNat * F.sz + q) hgw' hvc (by simpa using hs) (by simp; omega) hone
  refine ⟨w.setRow g (List.take (i.toNat * F.sz + q) cur.toList ++ vs ++ List.drop (i.toNat * F.sz + q + vs.length) cur.toList).toArray, _, ?_, ?_, h⟩
  · simp only [execOp, e0.ev hx, e0.ev hy, elp, add_lit, Nat.zero_add, Instr.storeAt, Instr.sureAddr, Sem.run_bind, Sem.run_pure, Result.andThen, hrun]
  · have hnew := setRow_heap w g cur (List.take (i.toNat * F.sz + q) cur.toList ++ vs ++ List.drop (i.toNat * F.sz + q + vs.length) cur.toList).toArray e (0, 0) hgw
    have hll : (List.take (i.toNat * F.sz + q) cur.toList ++ vs ++ List.drop (i.toNat * F.sz + q + vs.length) cur.toList).length = cur.size := by simp; omega
    refine k _ (single g (.cells (List.take (i.toNat * F.sz + q) cur.toList ++ vs ++ List.drop (i.toNat * F.sz + q + vs.length) cur.toList).toArray e)) _ ?_ rfl rfl rfl (Nat.le_refl _) (fun x o' hx hn => ?_) (fun x o' hx => ?_) (fun x o' hx => ?_)
    · have hsl : (st xs i z).length = xs.length := by simp [st]
      refine ⟨by rw [flat_len, hsl], .inr ⟨g, _, rfl, single_self _ _, h3, h4, by rw [List.size_toArray, hll, h5], ?_⟩⟩
      unfold st
      have hcl : cur.toList.length = c * F.sz := by simp [h5]
      have hf : (F.enc (gt xs i)) = (cur.toList.drop (i.toNat * F.sz)).take F.sz := by
        apply List.ext_getElem?
        intro j
        by_cases hj : j < F.sz
        · rw [← flat_get F (gt_some h0 h1) hj, ← h6, List.getElem?_take, if_pos (by omega), List.getElem?_take, if_pos hj, List.getElem?_drop]
        · rw [List.getElem?_eq_none (by rw [F.len]; omega), List.getElem?_eq_none (by simp; omega)]
      rw [flat_set F (gt_some h0 h1), ← h6, p2, hf]
      exact put_take cur.toList vs (xs.length * F.sz) (i.toNat * F.sz) q F.sz hlt (by omega) p1
    · rw [setRow_other w g x _ (fun hxg => by subst hxg; rw [hg] at hn; cases hn)]; exact hx
    · obtain ⟨rfl, rfl⟩ := single_eq hx; exact hnew
    · obtain ⟨rfl, rfl⟩ := single_eq hx; exact .inl ⟨_, hg⟩
/-! ### A row cut from the front on -/
theorem row_take {h : PHeap} (o : row F e A xs.length c xs h) (k : Nat) (hk : k ≤ xs.length) : row F e A (xs.take k).length c (xs.take k) h := by
  obtain ⟨_, h2⟩ := o
  have hl : (xs.take k).length = k := by simp; omega
  refine ⟨flat_len F _, ?_⟩
  rw [hl]
  rcases h2 with ⟨rfl, h0, h1⟩ | ⟨g, cur, rfl, hg, h3, h4, h5, h6⟩
  · exact .inl ⟨rfl, by omega, h1⟩
  · refine .inr ⟨g, cur, rfl, hg, by omega, h4, h5, ?_⟩
    have hle : k * F.sz ≤ xs.length * F.sz := Nat.mul_le_mul_right _ hk
    have hft : (xs.take k).flatMap F.enc = (xs.flatMap F.enc).take (k * F.sz) := by
      conv => rhs; rw [← List.take_append_drop k xs, List.flatMap_append, List.take_append_of_le_length (by rw [flat_len, hl]; omega), List.take_of_length_le (by rw [flat_len, hl]; omega)]
    rw [hft, ← h6, List.take_take, Nat.min_eq_left hle]
/-- 'v[:k]' of a row: the row, shorter. -/
theorem At.slTo (f : Frt l (row F e A xs.length c xs) l') {x y : Operand} {k : Int} {ki : IntKind} {ii : TI} (hg : grd os env g = some true) (hi : ti P t = some ii) (hk : ii.k = .slice e) {j : TI} (hj : ti P e = some j) (hx : ev env x = some (.slice A xs.length c)) (hy : ev env y = some (.int ki k))
    (h0 : 0 ≤ k) (h1 : k ≤ (xs.length : Int)) (hd : Nat.blt d n = true) (h : At n ds R ((d, .slice A (xs.take k.toNat).length c) :: env) (row F e A (xs.take k.toNat).length c (xs.take k.toNat) :: l') (wpList P os.toArray Q rest)) :
    At n ds R env l (wpList P os.toArray Q (⟨some d, .slice t x none (some y) none, ty, pos, af, g⟩ :: rest)) := op_ex hg rfl hd fun a w e0 hs => by
  have hs1 := hs.frt f
  have hc : xs.length ≤ c := by
    obtain ⟨h', o, s⟩ := hs1.head
    rcases o.2 with ⟨_, h0, h1⟩ | ⟨g, cur, _, _, h3, _⟩
    · omega
    · exact h3
  refine ⟨_, w, _, ?_, hs1.imp fun h' o => row_take o k.toNat (by omega), h⟩
  have hu := (ti_ok hi).slice hk
  have hu' : P.underlying t = some (.slice (P.elem t)) := by rw [hu]; simp [Program.elem, hu]
  have he : P.elem t = e := by rw [hu] at hu'; injection hu' with h; injection h with h; exact h.symm
  have hr := run_slice_h (P := P) (w := w) t A xs.length c hu' ki k h0 (by omega)
  rw [he, (ti_ok hj).run_sizeOf] at hr
  have hl : (xs.take k.toNat).length = k.toNat := by simp; omega
  simp only [execOp, e0.ev hx, e0.ev hy, Option.map_none, Option.map_some, Sem.run_bind, run_sliceAt_slice w t _ _ _ _ hu', hr, Result.andThen, Sem.run_pure, sliced, Nat.zero_mul, Nat.sub_zero, hl]
  congr 3
  cases A <;> simp [Addr.add]

/-! ### append -/
/-- From where appended elements are read. -/
def Src {α : Type} (R : Res) (F : Fl α) (l : List HProp) (A : Option Addr) (ys : List α) : Prop :=
  ∀ w, sat R l w → ∃ ad, A = some ad ∧ ∀ j u, (ys.flatMap F.enc)[j]? = some u → w.cell? (ad.add j) = some u
theorem Src.own {B : Option Addr} {cb : Nat} {ys : List α} (f : Frt l (row F e B ys.length cb ys) l') (hn : ys ≠ []) : Src R F l B ys := fun w hs => by
  obtain ⟨h, o, s⟩ := (hs.frt f).head
  have hp : 0 < ys.length := List.length_pos_iff.2 hn
  obtain ⟨g, cur, rfl, hg, h3, h4, h5, h6⟩ := row_some o hp
  refine ⟨_, rfl, fun j u hu => ?_⟩
  rw [add_lit, Nat.zero_add]
  have hgw := s g _ hg
  simp only [wh] at hgw
  rw [← h6] at hu
  rw [List.getElem?_take] at hu
  split at hu
  · simpa [World.cell?, hgw] using hu
  · cases hu
theorem At.app (f : Frt l (row F e A xs.length c xs) l') {x y : Operand} {B : Option Addr} {cb bytes : Nat} {ys : List α} {ii j : TI} (sr : Src R F l B ys) (hg : grd os env g = some true) (hi : ti P t = some ii) (hk : ii.k = .slice e) (hj : ti P e = some j) (hjs : j.size = F.sz) (hjb : j.bytes = bytes)
    (hx : ev env x = some (.slice A xs.length c)) (hy : ev env y = some (.slice B ys.length cb))
    (hz : j.zero.length = j.size) (hb : (xs.length + ys.length) * bytes ≤ 140737488355328) (hb0 : 0 < bytes) (hd : Nat.blt d n = true)
    (h : ∀ A' c', At n ds R ((d, .slice A' (xs ++ ys).length c') :: env) (row F e A' (xs ++ ys).length c' (xs ++ ys) :: l') (wpList P os.toArray Q rest)) :
    At n ds R env l (wpList P os.toArray Q (⟨some d, .call ⟨.builtin .append, #[x, y], #[t, t]⟩, ty, pos, af, g⟩ :: rest)) := op_ex hg rfl hd fun a w e0 hs => by
  obtain ⟨ad, rfl, hc⟩ := sr w hs
  have hs1 := hs.frt f
  obtain ⟨h', o, s⟩ := hs1.head
  obtain ⟨xi, z, hxi, hsz, hby, hze, hzc⟩ := (ti_ok hj).info
  have hm : (xs.length + ys.length) ≤ maxLen := by
    have : xs.length + ys.length ≤ (xs.length + ys.length) * bytes := Nat.le_mul_of_pos_right _ hb0
    simp only [maxLen]; omega
  obtain ⟨v', w', hr, ho', hg, _, hob⟩ := run_append_own_at (P := P) w 0 t ty e xi z F.sz bytes ((ti_ok hi).slice hk) hxi hze (by omega) (by omega) (by rw [hzc]; simp; omega) F.pos (.slice A xs.length c) xs.length (xs.flatMap F.enc) (own_world o s) ad ys.length cb (ys.flatMap F.enc) (flat_len F ys) hc (flat_one F ys) hm hb (Nat.zero_le _)
  obtain ⟨A', c', rfl, hs2⟩ := hs1.grown hg (run_drawn _ hr) ho' (hob.imp id fun e => ⟨_, e, Nat.le_refl _⟩)
  refine ⟨.slice A' (xs.length + ys.length) c', w', row F e A' (xs.length + ys.length) c' (xs ++ ys) :: l', ?_, ?_, ?_⟩
  · simp only [execOp, resolve, invoke, builtin, Sem.run_bind, Sem.run_pure, Result.andThen_ok, List.map_toArray, List.map_cons, List.map_nil, e0.ev hx, e0.ev hy, hr]
  · have : own e F.sz A' (xs.length + ys.length) c' (xs.flatMap F.enc ++ ys.flatMap F.enc) = row F e A' (xs.length + ys.length) c' (xs ++ ys) := by unfold row; rw [List.flatMap_append]
    rw [← this]; exact hs2
  · have := h A' c'
    rwa [List.length_append] at this

/-! ### make, and literals -/
theorem At.make {x y : Operand} {m : Int} {k k' : IntKind} {bytes : Nat} {z : α} {ii j : TI} (hg : grd os env g = some true) (hi : ti P t = some ii) (hk : ii.k = .slice e) (hj : ti P e = some j) (hjs : j.size = 1) (hF : F.sz = 1) (hjb : j.bytes = bytes) (hz : j.zero = F.enc z)
    (hx : ev env x = some (.int k m)) (hy : ev env y = some (.int k' m)) (h0 : 0 ≤ m) (h1 : (bytes : Int) * m ≤ 281474976710656) (hb0 : 0 < bytes) (hd : Nat.blt d n = true)
    (h : ∀ A c, At n ds R ((d, .slice A (List.replicate m.toNat z).length c) :: env) (row F e A (List.replicate m.toNat z).length c (List.replicate m.toNat z) :: l) (wpList P os.toArray Q rest)) :
    At n ds R env l (wpList P os.toArray Q (⟨some d, .makeSlice t x y, ty, pos, af, g⟩ :: rest)) := op_ex hg rfl hd fun a w e0 hs => by
  obtain ⟨xi, zv, hxi, hsz, hby, hze, hzc⟩ := (ti_ok hj).info
  have hm : m ≤ 9223372036854775807 := by
    have := Int.mul_le_mul_of_nonneg_right (show (1 : Int) ≤ (bytes : Int) by omega) h0
    omega
  have hr := run_make (P := P) w t e xi zv ((ti_ok hi).slice hk) hxi hze k k' m m h0 (Int.le_refl _) (by rw [hby, hjb]; exact h1) hm
  refine ⟨.slice (some ⟨w.heap.size, 0, none⟩) m.toNat m.toNat, w.alloc (.cells (madeCells zv.cells (m.toNat * xi.size)) e), row F e (some ⟨w.heap.size, 0, none⟩) m.toNat m.toNat (List.replicate m.toNat z) :: l, ?_, ?_, by have := h (some ⟨w.heap.size, 0, none⟩) m.toNat; rwa [List.length_replicate] at this⟩
  · simp only [execOp, e0.ev hx, e0.ev hy, Sem.run_bind, hr, Result.andThen, Sem.run_pure]
  · refine (hs.alloc _).imp fun h' o => ?_
    have hzl : ∃ u, F.enc z = [u] := by
      have := F.len z
      rw [hF] at this
      exact List.length_eq_one_iff.1 this
    obtain ⟨u, hu⟩ := hzl
    have hcells : (madeCells zv.cells (m.toNat * xi.size)).toList = (List.replicate m.toNat z).flatMap F.enc := by
      rw [hsz, hjs, Nat.mul_one, hzc, hz, hu]
      unfold madeCells
      simp only [Array.toList_map, Array.toList_range]
      apply List.ext_getElem?
      intro q
      by_cases hq : q < m.toNat
      · have := flat_get F (xs := List.replicate m.toNat z) (i := q) (x := z) (j := 0) (by simp [hq]) F.pos
        rw [hF, Nat.mul_one, Nat.add_zero, hu] at this
        rw [this]
        simp [hq, Nat.mod_one]
      · rw [List.getElem?_eq_none (by simp; omega), List.getElem?_eq_none (by rw [flat_len]; simp [hF]; omega)]
    refine ⟨by rw [flat_len, List.length_replicate], .inr ⟨w.heap.size, _, rfl, o, by simp, by simp only [maxLen]; omega, ?_, ?_⟩⟩
    · simp [madeCells, hsz, hjs, hF]
    · rw [hcells, List.take_of_length_le (by rw [flat_len]; simp)]
theorem foldl_put : ∀ (vs : List Value) (off k : Nat) (cs : List Value), off + k + vs.length ≤ cs.length →
    (vs.zipIdx k).foldl (fun (cs : Array Value) (p : Value × Nat) => cs.setIfInBounds (off + p.2) p.1) cs.toArray = (cs.take (off + k) ++ vs ++ cs.drop (off + k + vs.length)).toArray
  | [], off, k, cs, h => by simp
  | v :: vs, off, k, cs, h => by
    have hk : off + k < cs.length := by simp at h; omega
    rw [List.zipIdx_cons, List.foldl_cons, List.setIfInBounds_toArray, foldl_put vs off (k + 1) _ (by simp at h ⊢; omega)]
    congr 1
    rw [show off + (k + 1) = off + k + 1 from by omega, List.take_set, List.drop_set_of_lt (by omega)]
    have : (cs.take (off + k + 1)).set (off + k) v = cs.take (off + k) ++ [v] := by
      rw [List.take_succ_eq_append_getElem hk, List.set_append_right _ _ (by rw [List.length_take]; omega), List.length_take, Nat.min_eq_left (by omega), Nat.sub_self]
      rfl
    rw [this]
    simp only [List.length_cons, List.append_assoc, List.singleton_append, List.cons_append, List.nil_append, Nat.add_assoc, Nat.add_comm 1]
theorem fill_list {size : Nat} : ∀ (vs : List Value) (k : Nat) (cells : List Value), (∀ v ∈ vs, v.cells.size = size) → (k + vs.length) * size ≤ cells.length →
    Instr.fill (fun i => some (i * size, size)) cells.toArray ((vs.zipIdx k).map fun p => (p.2, p.1)) = some (cells.take (k * size) ++ vs.flatMap (fun v => v.cells.toList) ++ cells.drop ((k + vs.length) * size)).toArray
  | [], k, cells, _, _ => by simp [Instr.fill]
  | v :: vs, k, cells, h1, h2 => by
    have hv := h1 v (by simp)
    have e1 : (k + 1) * size = k * size + size := by rw [Nat.add_mul, Nat.one_mul]
    have e2 : (k + (v :: vs).length) * size = (k + 1 + vs.length) * size := by rw [List.length_cons]; congr 1; omega
    have e3 : (k + 1 + vs.length) * size = k * size + size + vs.length * size := by rw [Nat.add_mul, e1]
    rw [List.zipIdx_cons, List.map_cons]
    simp only [Instr.fill]
    rw [if_neg (by simp [hv]; rw [e2, e3] at h2; omega)]
    have hf := foldl_put v.cells.toList (k * size) 0 cells (by simp [hv]; rw [e2, e3] at h2; omega)
    rw [Nat.add_zero] at hf
    have hz : (v.cells.zipIdx.foldl (fun (cs : Array Value) (x : Value × Nat) => match x with | (c, j) => cs.setIfInBounds (k * size + j) c) cells.toArray) = ((v.cells.toList.zipIdx 0).foldl (fun (cs : Array Value) (p : Value × Nat) => cs.setIfInBounds (k * size + p.2) p.1) cells.toArray) := by
      rw [← Array.foldl_toList]
      congr 1
      simp
    rw [hz, hf, fill_list vs (k + 1) _ (fun u hu => h1 u (by simp [hu])) (by simp [hv]; rw [e2, e3] at h2; omega)]
    have hlv : v.cells.toList.length = size := by simp [hv]
    congr 2
    rw [e2, e3, e1]
    have hle : k * size + size ≤ cells.length := by rw [e2, e3] at h2; omega
    have ht : (cells.take (k * size)).length = k * size := by rw [List.length_take]; omega
    have a1 : (cells.take (k * size) ++ v.cells.toList ++ cells.drop (k * size + v.cells.toList.length)).take (k * size + size) = cells.take (k * size) ++ v.cells.toList := by
      rw [List.take_append_of_le_length (by rw [List.length_append, ht, hlv]; omega), List.take_of_length_le (by rw [List.length_append, ht, hlv]; omega)]
    have a2 : (cells.take (k * size) ++ v.cells.toList ++ cells.drop (k * size + v.cells.toList.length)).drop (k * size + size + vs.length * size) = cells.drop (k * size + size + vs.length * size) := by
      rw [List.drop_append, List.length_append, ht, hlv, List.drop_of_length_le (by rw [List.length_append, ht, hlv]; omega), List.nil_append, List.drop_drop]
      congr 1
      omega
    rw [a1, a2, List.flatMap_cons]
    simp only [List.append_assoc]
/-- A slice's literal, all its elements written out, in their order. -/
theorem At.lit (hg : grd os env g = some true) {len : Nat} {ps : Array (Nat × Operand)} {xo : List Operand} {vs : List Value} {ys : List α} {ii j : TI} (F : Fl α) (hi : ti P t = some ii) (hk : ii.k = .slice e) (hj : ti P e = some j) (hjs : j.size = F.sz)
    (hp : ps.toList = xo.zipIdx.map fun p => (p.2, p.1)) (hv : vals env xo = some vs) (hy : vs.map (fun v => v.cells.toList) = ys.map F.enc) (hl : len = ys.length) (hb : Nat.ble (len * F.sz) 16777216 = true) (hz : j.zero.length = j.size) (hd : Nat.blt d n = true)
    (h : ∀ A c, At n ds R ((d, .slice A ys.length c) :: env) (row F e A ys.length c ys :: l) (wpList P os.toArray Q rest)) :
    At n ds R env l (wpList P os.toArray Q (⟨some d, .buildSlice t len ps, ty, pos, af, g⟩ :: rest)) := op_ex hg rfl hd fun a w e0 hs => by
  obtain ⟨xi, zv, hxi, hsz, hby, hze, hzc⟩ := (ti_ok hj).info
  have hvl : vs.length = ys.length := by have := congrArg List.length hy; simpa using this
  have hval := vals_ok e0 hv
  have hpv : (ps.map fun (i, x) => (i, a.eval x)).toList = (vs.zipIdx 0).map fun p => (p.2, p.1) := by
    rw [Array.toList_map, hp, List.map_map, ← hval, List.zipIdx_map, List.map_map]
    congr 1
  have hcs : ∀ v ∈ vs, v.cells.size = F.sz := fun v hv => by
    have : v.cells.toList ∈ ys.map F.enc := by rw [← hy]; exact List.mem_map_of_mem hv
    obtain ⟨y, _, hy⟩ := List.mem_map.1 this
    rw [← Array.length_toList, ← hy, F.len]
  have hflat : vs.flatMap (fun v => v.cells.toList) = ys.flatMap F.enc := by rw [List.flatMap_def, List.flatMap_def, hy]
  have hn : ¬ len * xi.size > 2 ^ 24 := by rw [hsz, hjs]; simp only [Nat.ble_eq] at hb; omega
  have hbl : ys.length * F.sz ≤ 16777216 := by rw [← hl]; simpa using hb
  have key : ∀ zs : List Value, zs.length = ys.length * F.sz → Instr.fill (fun i => some (i * F.sz, F.sz)) zs.toArray ((vs.zipIdx 0).map fun p => (p.2, p.1)) = some (ys.flatMap F.enc).toArray := fun zs hzl => by
    rw [fill_list vs 0 zs hcs (by rw [hzl, hvl, Nat.zero_add]; exact Nat.le_refl _), hflat]
    rw [Nat.zero_mul, List.take_zero, List.nil_append, List.drop_of_length_le (by rw [hzl, hvl, Nat.zero_add]; exact Nat.le_refl _), List.append_nil]
  refine ⟨.slice (some ⟨w.heap.size, 0, none⟩) ys.length ys.length, w.alloc (.cells (ys.flatMap F.enc).toArray e), row F e (some ⟨w.heap.size, 0, none⟩) ys.length ys.length ys :: l, ?_, ?_, h _ _⟩
  · subst hl
    have hfill : ∀ f : Nat → Value, Instr.fill (fun i => some (i * xi.size, xi.size)) ((Array.range (ys.length * xi.size)).map f) ((ps.map fun (i, x) => (i, a.eval x)).toList) = some (ys.flatMap F.enc).toArray := fun f => by
      rw [hpv, hsz, hjs]
      have := key ((Array.range (ys.length * F.sz)).map f).toList (by simp)
      rwa [Array.toArray_toList] at this
    have hsl := (ti_ok hi).slice hk
    by_cases h0 : ys.length * xi.size = 0
    · simp only [execOp, Instr.buildSlice, Sem.run_bind, run_underlying hsl, Result.andThen, sizeOf, typeInfo, hxi, run_program, Sem.run_pure, Sem.run_ite, if_neg hn, if_pos h0, hfill, newRow, run_newObj, World.alloc_eq]
    · simp only [execOp, Instr.buildSlice, Sem.run_bind, run_underlying hsl, Result.andThen, sizeOf, typeInfo, hxi, run_program, Sem.run_pure, Sem.run_ite, if_neg hn, if_neg h0, zeroValue, hze, hfill, newRow, run_newObj, World.alloc_eq]
  · refine (hs.alloc _).imp fun h' o => ⟨flat_len F _, .inr ⟨w.heap.size, _, rfl, o, Nat.le_refl _, ?_, ?_, ?_⟩⟩
    · have : ys.length ≤ ys.length * F.sz := Nat.le_mul_of_pos_right _ F.pos
      simp only [maxLen]; omega
    · rw [List.size_toArray, flat_len]
    · rw [List.take_of_length_le (by rw [List.toList_toArray, flat_len]; exact Nat.le_refl _)]
/-! ### The same, the length under another name -/
theorem At.rowLen {m : Nat} (f : Frt l (row F e A m c xs) l') (h : xs.length = m → At n ds R env l K) : At n ds R env l K := fun a w e0 hs =>
  h (let ⟨_, o, _⟩ := (hs.frt f).head; row_len o) a w e0 hs
theorem Y.rowLen {o : Oper} {v : Value} {m : Nat} (f : Frt l (row F e A m c xs) l') (h : xs.length = m → Y P n ds R env l o v) : Y P n ds R env l o v := fun a w e0 hs =>
  h (let ⟨_, o, _⟩ := (hs.frt f).head; row_len o) a w e0 hs
section
variable {m : Nat}
theorem Y.ix (f : Frt l (row F e A m c xs) l') {x y : Operand} {i : Int} {k : IntKind} {ii : TI} {dd : Option Nat} (hi : ti P t = some ii) (hk : ii.k = .slice e) (hx : ev env x = some (.slice A m c)) (hy : ev env y = some (.int k i))
    {j : TI} (hj : ti P e = some j) (hjs : j.size = F.sz) (h0 : 0 ≤ i) (h1 : i < (m : Int)) : Y P n ds R env l ⟨dd, .indexAddr t x y, ty, pos, af, g⟩ (elp A (i.toNat * F.sz)) :=
  Y.rowLen f fun hm => by subst hm; exact Y.ixOwn f hi hk hx hy hj hjs h0 h1
theorem Y.ld (f : Frt l (row F e A m c xs) l') {x : Operand} {i : Int} {q : Nat} {v : Value} {ii : TI} {dd : Option Nat} (hi : ti P t = some ii) (hx : ev env x = some (elp A (i.toNat * F.sz + q))) (h0 : 0 ≤ i) (h1 : i < (m : Int))
    (hl : Nat.ble (q + ii.size) F.sz = true) (hz : Nat.blt 0 ii.size = true) (hv : partOf P t q (F.enc (gt xs i)) = some v) : Y P n ds R env l ⟨dd, .load t x, ty, pos, af, g⟩ v :=
  Y.rowLen f fun hm => by subst hm; exact Y.ldOwn f hi hx h0 h1 hl hz hv
theorem At.st (hg : grd os env g = some true) (f : Frt l (row F e A m c xs) l') {x y : Operand} {i : Int} {q : Nat} {v : Value} {vs : List Value} {z : α} {ii : TI} (hi : ti P t = some ii) (hx : ev env x = some (elp A (i.toNat * F.sz + q))) (hy : ev env y = some v)
    (h0 : 0 ≤ i) (h1 : i < (m : Int)) (hv : v.cells.toList = vs) (hs : Nat.beq vs.length ii.size = true) (p : Put (F.enc (gt xs i)) q vs (F.enc z))
    (h : At n ds R env (row F e A m c (st xs i z) :: l') (wpList P os.toArray Q rest)) : At n ds R env l (wpList P os.toArray Q (⟨none, .store t x y, ty, pos, af, g⟩ :: rest)) :=
  At.rowLen f fun hm => by subst hm; exact At.stOwn (hg := hg) f hi hx hy h0 h1 hv hs p h
theorem At.cut (hg : grd os env g = some true) (f : Frt l (row F e A m c xs) l') {x y : Operand} {k : Int} {ki : IntKind} {ii : TI} (hi : ti P t = some ii) (hk : ii.k = .slice e) {j : TI} (hj : ti P e = some j) (hx : ev env x = some (.slice A m c)) (hy : ev env y = some (.int ki k))
    (h0 : 0 ≤ k) (h1 : k ≤ (m : Int)) (hd : Nat.blt d n = true) (h : At n ds R ((d, .slice A (xs.take k.toNat).length c) :: env) (row F e A (xs.take k.toNat).length c (xs.take k.toNat) :: l') (wpList P os.toArray Q rest)) :
    At n ds R env l (wpList P os.toArray Q (⟨some d, .slice t x none (some y) none, ty, pos, af, g⟩ :: rest)) :=
  At.rowLen f fun hm => by subst hm; exact At.slTo (hg := hg) f hi hk hj hx hy h0 h1 hd h
theorem At.append (hg : grd os env g = some true) {x y : Operand} {B : Option Addr} {cb bytes : Nat} {ys : List α} {ii j : TI} (f : Frt l (row F e A m c xs) l') (sr : Src R F l B ys) (hi : ti P t = some ii) (hk : ii.k = .slice e) (hj : ti P e = some j) (hjs : j.size = F.sz) (hjb : j.bytes = bytes)
    (hx : ev env x = some (.slice A m c)) (hy : ev env y = some (.slice B ys.length cb))
    (hz : j.zero.length = j.size) (hb : (m + ys.length) * bytes ≤ 140737488355328) (hb0 : 0 < bytes) (hd : Nat.blt d n = true)
    (h : ∀ A' c', At n ds R ((d, .slice A' (xs ++ ys).length c') :: env) (row F e A' (xs ++ ys).length c' (xs ++ ys) :: l') (wpList P os.toArray Q rest)) :
    At n ds R env l (wpList P os.toArray Q (⟨some d, .call ⟨.builtin .append, #[x, y], #[t, t]⟩, ty, pos, af, g⟩ :: rest)) :=
  At.rowLen f fun hm => by subst hm; exact At.app (hg := hg) f sr hi hk hj hjs hjb hx hy hz hb hb0 hd h
end
end
end Go.Bw
