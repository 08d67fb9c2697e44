/- What is read alone: told by a table of blocks that nothing writes. Conditions: none. -/
import Derived.Test.YtbkooifhcekpmaaGreatBwRow
set_option linter.unusedVariables false
set_option linter.unusedSimpArgs false
set_option linter.unusedSectionVars false
namespace Go.Bw
open Go Go.RowKit

structure Rep (α : Type) where
  sz : Nat
  K : PHeap → α → List Value → Prop
  len : ∀ {H x cs}, K H x cs → cs.length = sz
  mono : ∀ {H H' x cs}, Sub H H' → K H x cs → K H' x cs
  pos : 0 < sz
def Fl.rep {α : Type} (F : Fl α) : Rep α := ⟨F.sz, fun _ x cs => cs = F.enc x, fun h => by rw [h]; exact F.len _, fun _ h => h, F.pos⟩
/-- The cells from an address on. -/
def RdA (H : PHeap) (a : Addr) (cs : List Value) : Prop := ∀ j u, cs[j]? = some u → ∃ arr e fr, H (a.add j).block = some (.cells arr e fr) ∧ (a.add j).spot = none ∧ arr[(a.add j).off]? = some u
theorem RdA.mono {H H' : PHeap} {a : Addr} {cs : List Value} (s : Sub H H') (h : RdA H a cs) : RdA H' a cs := fun j u hu =>
  let ⟨arr, e, fr, h1, h2, h3⟩ := h j u hu
  ⟨arr, e, fr, s _ _ h1, h2, h3⟩
theorem RdA.cell {H : PHeap} {a : Addr} {cs : List Value} {w : World} (h : RdA H a cs) (s : Sub H (wh w)) {j : Nat} {u : Value} (hu : cs[j]? = some u) : w.cell? (a.add j) = some u := by
  obtain ⟨arr, e, fr, h1, h2, h3⟩ := h j u hu
  have := s _ _ h1
  simp only [wh] at this
  simp [World.cell?, this, h2, h3]
/-- What a slice's elements read as. -/
def RdS {α : Type} (T : Rep α) (H : PHeap) (A : Option Addr) (xs : List α) : Prop := ∀ i x, xs[i]? = some x → ∃ ad cs, A = some ad ∧ T.K H x cs ∧ RdA H (ad.add (i * T.sz)) cs
theorem RdS.mono {α : Type} {T : Rep α} {H H' : PHeap} {A : Option Addr} {xs : List α} (s : Sub H H') (h : RdS T H A xs) : RdS T H' A xs := fun i x hx =>
  let ⟨ad, cs, h1, h2, h3⟩ := h i x hx
  ⟨ad, cs, h1, T.mono s h2, h3.mono s⟩
def Rep.slice {α : Type} (T : Rep α) : Rep (List α) := ⟨1, fun H xs cs => ∃ A c, cs = [.slice A xs.length c] ∧ xs.length ≤ c ∧ RdS T H A xs,
  fun ⟨_, _, h, _⟩ => by rw [h]; rfl, fun s ⟨A, c, h1, h2, h3⟩ => ⟨A, c, h1, h2, h3.mono s⟩, by decide⟩
theorem RdS.nil {α : Type} (T : Rep α) (H : PHeap) (A : Option Addr) : RdS T H A [] := fun i x h => by simp at h
theorem RdS.at_ {α : Type} [Inhabited α] {T : Rep α} {H : PHeap} {A : Option Addr} {xs : List α} (h : RdS T H A xs) {i : Int} (h0 : 0 ≤ i) (h1 : i < (xs.length : Int)) :
    ∃ ad cs, A = some ad ∧ T.K H (gt xs i) cs ∧ RdA H (ad.add (i.toNat * T.sz)) cs := h _ _ (gt_some h0 h1)
theorem RdS.take {α : Type} {T : Rep α} {H : PHeap} {A : Option Addr} {xs : List α} (h : RdS T H A xs) (k : Nat) : RdS T H A (xs.take k) := fun i x hx => h i x (by
  rw [List.getElem?_take] at hx
  split at hx
  · exact hx
  · cases hx)
theorem RdS.drop {α : Type} {T : Rep α} {H : PHeap} {A : Option Addr} {xs : List α} (h : RdS T H A xs) (k : Nat) : RdS T H (A.map (·.add (k * T.sz))) (xs.drop k) := fun i x hx => by
  rw [List.getElem?_drop] at hx
  obtain ⟨ad, cs, rfl, h2, h3⟩ := h _ _ hx
  refine ⟨_, cs, rfl, h2, ?_⟩
  rw [addr_add_add, ← Nat.add_mul]
  exact h3
/-- A row of the call's own, frozen, is read so. -/
theorem row_rd {α : Type} {F : Fl α} {e : Nat} {A : Option Addr} {c : Nat} {xs : List α} {h H : PHeap} (o : row F e A xs.length c xs h) (s : Sub h H) : RdS F.rep H A xs := fun i x hx => by
  have hi : i < xs.length := (List.getElem?_eq_some_iff.1 hx).1
  obtain ⟨g, cur, rfl, hg, h3, h4, h5, h6⟩ := row_some o (by omega)
  refine ⟨_, _, rfl, rfl, fun j u hu => ?_⟩
  have hj : j < F.sz := by rw [← F.len x]; exact (List.getElem?_eq_some_iff.1 hu).1
  rw [addr_add_add, add_lit, Nat.zero_add]
  refine ⟨cur, e, (0, 0), s g _ hg, rfl, ?_⟩
  have hf := flat_get F hx hj
  rw [← h6, List.getElem?_take, hu] at hf
  split at hf
  · rw [show F.rep.sz = F.sz from rfl]; simpa using hf
  · cases hf
theorem row_le {α : Type} {F : Fl α} {e : Nat} {A : Option Addr} {c : Nat} {xs : List α} {h : PHeap} (o : row F e A xs.length c xs h) : xs.length ≤ c := by
  rcases o.2 with ⟨_, h0, h1⟩ | ⟨g, cur, _, _, h3, _⟩
  · omega
  · exact h3

section
variable {P : Program} [Tys P] {os : List Oper} {Q : Exit → Act → World → Prop} {rest : List Oper} {n : Nat} {ds : List Deferred} {R : Res} {env : List (Nat × Value)} {l l' : List HProp}
variable {d ty : Nat} {pos : String} {af : Array Edge} {g : Option (Nat × Bool)} {α : Type} [Inhabited α] {F : Fl α} {T : Rep α} {e t : Nat} {A : Option Addr} {c : Nat} {xs : List α} {K : Act → World → Prop}
theorem sat_sub {w : World} (h : sat R l w) : Sub R.heap (wh w) := h.1.sub
theorem Y.ixRd {m : Nat} (hr : RdS T R.heap A xs) (hm : xs.length = m) {x y : Operand} {i : Int} {k : IntKind} {ii : TI} {dd : Option Nat} (hi : ti P t = some ii) (hk : ii.k = .slice e) (hx : ev env x = some (.slice A m c)) (hy : ev env y = some (.int k i))
    {j : TI} (hj : ti P e = some j) (hjs : j.size = T.sz) (h0 : 0 ≤ i) (h1 : i < (m : Int)) :
    Y P n ds R env l ⟨dd, .indexAddr t x y, ty, pos, af, g⟩ (elp A (i.toNat * T.sz)) := fun a w e0 hs => by
  subst hm
  obtain ⟨ad, cs, rfl, _⟩ := hr.at_ h0 h1
  simp only [execOp, e0.ev hx, e0.ev hy, Instr.indexAt, asIntOf, Sem.run_bind, Sem.run_pure, Result.andThen, run_underlying ((ti_ok hi).slice hk), Sem.run_ite, if_pos (show 0 ≤ i ∧ i < (xs.length : Int) from ⟨h0, h1⟩), (ti_ok hj).run_sizeOf, hjs, elp]
/-- An element, or a field of it, is read: what its cells are is told by its kind. -/
theorem Y.ldRd {m : Nat} (hr : RdS T R.heap A xs) (hm : xs.length = m) {x : Operand} {i : Int} {q : Nat} {v : Value} {ii : TI} {dd : Option Nat} (hi : ti P t = some ii) (hx : ev env x = some (elp A (i.toNat * T.sz + q))) (h0 : 0 ≤ i) (h1 : i < (m : Int))
    (hl : Nat.ble (q + ii.size) T.sz = true) (hz : Nat.blt 0 ii.size = true) (hv : ∀ ad cs, A = some ad → T.K R.heap (gt xs i) cs → RdA R.heap (ad.add (i.toNat * T.sz)) cs → partOf P t q cs = some v) :
    Y P n ds R env l ⟨dd, .load t x, ty, pos, af, g⟩ v := fun a w e0 hs => by
  subst hm
  obtain ⟨ad, cs, rfl, hk, hc⟩ := hr.at_ h0 h1
  have hl' : q + ii.size ≤ T.sz := by simpa using hl
  have hlen := T.len hk
  have := run_loadVar_cells (P := P) (w := w) (a := ad.add (i.toNat * T.sz + q)) (cs := (cs.drop q).take ii.size) (v := v) hi (by simp; omega) (fun j u hu => by
    have := hc.cell (sat_sub hs) (drop_take_get hu)
    rw [addr_add_add] at this ⊢
    rw [Nat.add_assoc]; exact this) (partOf_cut hi hz (hv _ _ rfl hk hc))
  simp only [execOp, e0.ev hx, elp, Instr.loadAt, Instr.sureAddr, Sem.run_bind, Sem.run_pure, Result.andThen, this]
/-- An element of a plain kind. -/
theorem Y.ldFl {m : Nat} (hr : RdS F.rep R.heap A xs) (hm : xs.length = m) {x : Operand} {i : Int} {q : Nat} {v : Value} {ii : TI} {dd : Option Nat} (hi : ti P t = some ii) (hx : ev env x = some (elp A (i.toNat * F.sz + q))) (h0 : 0 ≤ i) (h1 : i < (m : Int))
    (hl : Nat.ble (q + ii.size) F.sz = true) (hz : Nat.blt 0 ii.size = true) (hv : partOf P t q (F.enc (gt xs i)) = some v) :
    Y P n ds R env l ⟨dd, .load t x, ty, pos, af, g⟩ v := Y.ldRd hr hm hi hx h0 h1 hl hz (fun _ cs _ hk _ => by rw [show cs = F.enc (gt xs i) from hk]; exact hv)
/-- An element that is itself a slice: what it reads as. -/
theorem RdS.row {m : Nat} {xss : List (List α)} (hr : RdS T.slice R.heap A xss) (hm : xss.length = m) {i : Int} (h0 : 0 ≤ i) (h1 : i < (m : Int)) : ∃ B cb, (gt xss i).length ≤ cb ∧ RdS T R.heap B (gt xss i) ∧
    ∀ {x : Operand} {ii : TI} {dd : Option Nat} {env : List (Nat × Value)} {l : List HProp} (hi : ti P t = some ii) (hx : ev env x = some (elp A (i.toNat * 1))) (hs1 : ii.size = 1) (hag : agg ii.k = false),
      Y P n ds R env l ⟨dd, .load t x, ty, pos, af, g⟩ (.slice B (gt xss i).length cb) := by
  subst hm
  obtain ⟨ad, cs, rfl, ⟨B, cb, h2, h3, h4⟩, h5⟩ := hr.at_ h0 h1
  refine ⟨B, cb, h3, h4, fun {x ii dd env l} hi hx hs1 hag a w e0 hs => ?_⟩
  subst h2
  have := run_loadVar_cells (P := P) (w := w) (a := ad.add (i.toNat * 1)) (cs := [.slice B (gt xss i).length cb]) (v := .slice B (gt xss i).length cb) hi (by rw [hs1]; rfl) (fun j u hu => by
    exact h5.cell (sat_sub hs) hu) (by unfold partOf; rw [hi]; simp [hag])
  simp only [execOp, e0.ev hx, elp, Instr.loadAt, Instr.sureAddr, Sem.run_bind, Sem.run_pure, Result.andThen, this]
/-- .. where what is read is of an earlier table. -/
theorem RdS.rowAt {H0 : PHeap} {m : Nat} {xss : List (List α)} (hr : RdS T.slice H0 A xss) (sb : Sub H0 R.heap) (hm : xss.length = m) {i : Int} (h0 : 0 ≤ i) (h1 : i < (m : Int)) : ∃ B cb, (gt xss i).length ≤ cb ∧ RdS T H0 B (gt xss i) ∧
    ∀ {x : Operand} {ii : TI} {dd : Option Nat} {env : List (Nat × Value)} {l : List HProp} (hi : ti P t = some ii) (hx : ev env x = some (elp A (i.toNat * 1))) (hs1 : ii.size = 1) (hag : agg ii.k = false),
      Y P n ds R env l ⟨dd, .load t x, ty, pos, af, g⟩ (.slice B (gt xss i).length cb) := by
  subst hm
  obtain ⟨ad, cs, rfl, ⟨B, cb, h2, h3, h4⟩, h5⟩ := hr.at_ h0 h1
  refine ⟨B, cb, h3, h4, fun {x ii dd env l} hi hx hs1 hag a w e0 hs => ?_⟩
  subst h2
  have := run_loadVar_cells (P := P) (w := w) (a := ad.add (i.toNat * 1)) (cs := [.slice B (gt xss i).length cb]) (v := .slice B (gt xss i).length cb) hi (by rw [hs1]; rfl) (fun j u hu => by
    exact h5.cell (sb.trans (sat_sub hs)) hu) (by unfold partOf; rw [hi]; simp [hag])
  simp only [execOp, e0.ev hx, elp, Instr.loadAt, Instr.sureAddr, Sem.run_bind, Sem.run_pure, Result.andThen, this]
/-- 'xs[lo:hi]' of what is read alone. -/
theorem Y.slTo {m : Nat} (hm : xs.length = m) {x y : Operand} {k : Int} {ki : IntKind} {ii : TI} {dd : Option Nat} (hi : ti P t = some ii) (hk : ii.k = .slice e) {j : TI} (hj : ti P e = some j) (hx : ev env x = some (.slice A m c)) (hy : ev env y = some (.int ki k))
    (hc : m ≤ c) (h0 : 0 ≤ k) (h1 : k ≤ (m : Int)) :
    Y P n ds R env l ⟨dd, .slice t x none (some y) none, ty, pos, af, g⟩ (.slice A (xs.take k.toNat).length c) := fun a w e0 hs => by
  subst hm
  have hu := (ti_ok hi).slice hk
  have hu' : P.underlying t = some (.slice (P.elem t)) := by rw [hu]; simp [Program.elem, hu]
  have he : P.elem t = e := by rw [hu] at hu'; injection hu' with h; injection h with h; exact h.symm
  have hr := run_slice_h (P := P) (w := w) t A xs.length c hu' ki k h0 (by omega)
  rw [he, (ti_ok hj).run_sizeOf] at hr
  have hl : (xs.take k.toNat).length = k.toNat := by simp; omega
  simp only [execOp, e0.ev hx, e0.ev hy, Option.map_none, Option.map_some, Sem.run_bind, run_sliceAt_slice w t _ _ _ _ hu', hr, Result.andThen, Sem.run_pure, sliced, Nat.zero_mul, Nat.sub_zero, hl]
  congr 3
  cases A <;> simp [Addr.add]
theorem Y.slFrom {m : Nat} (hm : xs.length = m) {x y : Operand} {k : Int} {ki : IntKind} {ii : TI} {dd : Option Nat} (hi : ti P t = some ii) (hk : ii.k = .slice e) {j : TI} (hj : ti P e = some j) (hjs : j.size = T.sz) (hx : ev env x = some (.slice A m c)) (hy : ev env y = some (.int ki k))
    (hr : RdS T R.heap A xs) (hc : m ≤ c) (h0 : 0 ≤ k) (h1 : k ≤ (m : Int)) :
    ∃ B, RdS T R.heap B (xs.drop k.toNat) ∧ (xs.drop k.toNat).length ≤ c - k.toNat ∧ Y P n ds R env l ⟨dd, .slice t x (some y) none none, ty, pos, af, g⟩ (.slice B (xs.drop k.toNat).length (c - k.toNat)) := by
  subst hm
  have hl : (xs.drop k.toNat).length = xs.length - k.toNat := by simp
  refine ⟨if c = k.toNat then A else A.map (·.add (k.toNat * T.sz)), ?_, by omega, fun a w e0 hs => ?_⟩
  · split
    · rename_i hck
      rw [List.drop_of_length_le (by omega)]
      exact RdS.nil _ _ _
    · exact hr.drop _
  · have hu := (ti_ok hi).slice hk
    have hu' : P.underlying t = some (.slice (P.elem t)) := by rw [hu]; simp [Program.elem, hu]
    have he : P.elem t = e := by rw [hu] at hu'; injection hu' with h; injection h with h; exact h.symm
    have hr := run_slice_l (P := P) (w := w) t A xs.length c hu' ki k h0 h1
    rw [he, (ti_ok hj).run_sizeOf] at hr
    simp only [execOp, e0.ev hx, e0.ev hy, Option.map_none, Option.map_some, Sem.run_bind, run_sliceAt_slice w t _ _ _ _ hu', hr, Result.andThen, Sem.run_pure, sliced, hl, hjs]
theorem Y.slFromAt {H0 : PHeap} {m : Nat} {k : Int} (hm : xs.length = m) (hr : RdS T H0 A xs) (hc : m ≤ c) (h0 : 0 ≤ k) (h1 : k ≤ (m : Int)) :
    ∃ B, RdS T H0 B (xs.drop k.toNat) ∧ (xs.drop k.toNat).length ≤ c - k.toNat ∧ ∀ {x y : Operand} {ki : IntKind} {ii : TI} {dd : Option Nat} {env : List (Nat × Value)} {l : List HProp} (hi : ti P t = some ii) (hk : ii.k = .slice e) {j : TI} (hj : ti P e = some j) (hjs : j.size = T.sz) (hx : ev env x = some (.slice A m c)) (hy : ev env y = some (.int ki k)),
      Y P n ds R env l ⟨dd, .slice t x (some y) none none, ty, pos, af, g⟩ (.slice B (xs.drop k.toNat).length (c - k.toNat)) := by
  subst hm
  have hl : (xs.drop k.toNat).length = xs.length - k.toNat := by simp
  refine ⟨if c = k.toNat then A else A.map (·.add (k.toNat * T.sz)), ?_, by omega, fun {x y ki ii dd env l} hi hk {j} hj hjs hx hy a w e0 hs => ?_⟩
  · split
    · rename_i hck
      rw [List.drop_of_length_le (by omega)]
      exact RdS.nil _ _ _
    · exact hr.drop _
  · have hu := (ti_ok hi).slice hk
    have hu' : P.underlying t = some (.slice (P.elem t)) := by rw [hu]; simp [Program.elem, hu]
    have he : P.elem t = e := by rw [hu] at hu'; injection hu' with h; injection h with h; exact h.symm
    have hr := run_slice_l (P := P) (w := w) t A xs.length c hu' ki k h0 h1
    rw [he, (ti_ok hj).run_sizeOf] at hr
    simp only [execOp, e0.ev hx, e0.ev hy, Option.map_none, Option.map_some, Sem.run_bind, run_sliceAt_slice w t _ _ _ _ hu', hr, Result.andThen, Sem.run_pure, sliced, hl, hjs]
/-- Elements that are read alone are appended. -/
theorem Src.rd {B : Option Addr} {ys : List α} (hr : RdS F.rep R.heap B ys) (hn : ys ≠ []) : Src R F l B ys := fun w hs => by
  have hp : 0 < ys.length := List.length_pos_iff.2 hn
  obtain ⟨ad, _, hA, _⟩ := hr 0 ys[0] (by simp)
  refine ⟨ad, hA, fun j u hu => ?_⟩
  have hj : j < ys.length * F.sz := by rw [← flat_len F ys]; exact (List.getElem?_eq_some_iff.1 hu).1
  have hq : j / F.sz < ys.length := Nat.div_lt_of_lt_mul (by rw [Nat.mul_comm]; exact hj)
  have hm : j % F.sz < F.sz := Nat.mod_lt _ F.pos
  obtain ⟨ad', cs, hA', hk, hc⟩ := hr (j / F.sz) ys[j / F.sz] (by simp)
  rw [hA] at hA'
  cases hA'
  have hcs : cs = F.enc ys[j / F.sz] := hk
  have hf := flat_get F (xs := ys) (i := j / F.sz) (x := ys[j / F.sz]) (j := j % F.sz) (by simp) hm
  have hdm : j / F.sz * F.sz + j % F.sz = j := by rw [Nat.mul_comm]; exact Nat.div_add_mod j F.sz
  rw [hdm, hu] at hf
  have := hc.cell (sat_sub hs) (j := j % F.sz) (u := u) (by rw [hcs]; exact hf.symm)
  rw [addr_add_add, show F.rep.sz = F.sz from rfl, hdm] at this
  exact this
theorem Y.fa {s : Nat} {fi k off : Nat} {ft : Nat} {fs : List (Nat × Nat)} {x : Operand} {ii j : TI} {dd : Option Nat} (hA : ∃ ad, A = some ad) (hi : ti P s = some ii) (hk : ii.k = .struct fs) (hf : fs[fi]? = some (ft, off)) (hj : ti P ft = some j) (hz : Nat.beq j.size 0 = false)
    (hx : ev env x = some (elp A k)) : Y P n ds R env l ⟨dd, .fieldAddr s x fi, ty, pos, af, g⟩ (elp A (k + off)) := fun a w e0 hs => by
  obtain ⟨ad, rfl⟩ := hA
  obtain ⟨flds, hu, hm⟩ := (ti_ok hi).struct hk
  have hfl : ∃ fl : Field, flds[fi]? = some fl ∧ fl.type = ft ∧ fl.offset = off := by
    rw [← hm] at hf
    rw [List.getElem?_map] at hf
    obtain ⟨fl, h1, h2⟩ := Option.map_eq_some_iff.1 hf
    simp only [Prod.mk.injEq] at h2
    exact ⟨fl, by simpa using h1, h2.1, h2.2⟩
  obtain ⟨fl, h1, h2, h3⟩ := hfl
  have hz' : ¬ j.size = 0 := by
    intro e
    rw [e] at hz
    simp at hz
  simp only [execOp, e0.ev hx, elp, Instr.fieldAt, Sem.run_bind, run_underlying hu, Result.andThen, h1, Instr.sureAddr, Sem.run_pure, fieldPlace, h2, (ti_ok hj).run_sizeOf, Sem.run_ite, h3, if_neg hz', addr_add_add]
theorem RdS.some_ {m : Nat} (hr : RdS T R.heap A xs) (hm : xs.length = m) {i : Int} (h0 : 0 ≤ i) (h1 : i < (m : Int)) : ∃ ad, A = some ad := by
  subst hm
  obtain ⟨ad, cs, h, _⟩ := hr.at_ h0 h1
  exact ⟨ad, h⟩
theorem At.rowSome {m : Nat} (f : Frt l (row F e A m c xs) l') {i : Int} (h0 : 0 ≤ i) (h1 : i < (m : Int)) (h : (∃ ad, A = some ad) → At n ds R env l K) : At n ds R env l K := fun a w e0 hs =>
  h (by
    obtain ⟨h', o, s⟩ := (hs.frt f).head
    have hm := row_len o
    subst hm
    exact sat_row_some (hs.frt f) h0 h1) a w e0 hs
/-- A row frozen for a while. -/
theorem At.freeze {m : Nat} (f : Frt l (row F e A m c xs) l')
    (k : ∀ R', RdS F.rep R'.heap A xs → xs.length = m → m ≤ c → Sub R.heap R'.heap → (∀ l w, sat R' l w → sat R (row F e A m c xs :: l) w) → At n ds R' env l' K) : At n ds R env l K := fun a w e0 hs => by
  obtain ⟨h1, o, dj, hs'⟩ := (hs.frt f).freeze
  have hm := row_len o
  subst hm
  exact k (R.add h1) (row_rd o (uni_left _ _)) rfl (row_le o) (uni_right dj) (fun l w h => h.thaw o dj) a w e0 hs'
theorem At.thaw {R' : Res} {C : HProp} (th : ∀ l w, sat R' l w → sat R (C :: l) w) (k : At n ds R env (C :: l) K) : At n ds R' env l K := fun a w e0 hs => k a w e0 (th _ _ hs)
end
end Go.Bw
