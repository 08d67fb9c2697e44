/- One rule for each operation on memory that the call itself made: variables, boxes, rows. Conditions: none. -/
import Derived.Test.YtbkooifhcekpmaaGreatBwPure
set_option linter.unusedVariables false
set_option linter.unusedSimpArgs false
set_option linter.unusedSectionVars false
namespace Go.Bw
open Go Go.RowKit

inductive Put : List Value → Nat → List Value → List Value → Prop
  | n {cs} : Put cs 0 [] cs
  | c {c cs v vs cs'} : Put cs 0 vs cs' → Put (c :: cs) 0 (v :: vs) (v :: cs')
  | s {c cs k vs cs'} : Put cs k vs cs' → Put (c :: cs) (k + 1) vs (c :: cs')
theorem Put.eq {cs : List Value} {k : Nat} {vs cs' : List Value} (h : Put cs k vs cs') : k + vs.length ≤ cs.length ∧ cs' = cs.take k ++ vs ++ cs.drop (k + vs.length) := by
  induction h with
  | n => simp
  | c _ ih => obtain ⟨h1, h2⟩ := ih; simp at h1 ⊢; exact ⟨h1, by simpa using h2⟩
  | @s c cs k vs cs' _ ih =>
    obtain ⟨h1, h2⟩ := ih
    refine ⟨by simp; omega, ?_⟩
    rw [show k + 1 + vs.length = (k + vs.length) + 1 from by omega]
    simp [h2]
theorem add_lit (b off j : Nat) : (⟨b, off, none⟩ : Addr).add j = ⟨b, off + j, none⟩ := by unfold Addr.add; split <;> simp_all
theorem addr_add_add (a : Addr) (i j : Nat) : (a.add i).add j = a.add (i + j) := by
  unfold Addr.add
  by_cases hi : i = 0 <;> by_cases hj : j = 0 <;> simp [hi, hj, Nat.add_assoc]
theorem addr_add_block (a : Addr) (i : Nat) : (a.add i).block = a.block := by unfold Addr.add; split <;> rfl
theorem cell_of {w : World} {b : Nat} {cs : List Value} {t : Nat} {fr : Nat × Nat} (h : w.heap[b]? = some (.cells cs.toArray t fr)) (k : Nat) : w.cell? ⟨b, k, none⟩ = cs[k]? := by
  simp [World.cell?, h]
section
variable {P : Program} [Tys P] {w : World}
/-- A variable loaded. -/
theorem run_loadVar_cells {t : Nat} {i : TI} (hi : ti P t = some i) {a : Addr} {cs : List Value} {v : Value} (hl : cs.length = i.size) (hc : ∀ j u, cs[j]? = some u → w.cell? (a.add j) = some u) (hv : partOf P t 0 cs = some v) :
    (loadVar t a).run P w = .ok v w := by
  have ok := ti_ok hi
  unfold partOf at hv
  rw [hi] at hv
  simp only [loadVar, Sem.run_bind, ok.run_isAgg, Result.andThen]
  cases hg : agg i.k with
  | true =>
    simp only [hg] at hv
    cases hv
    have := run_loadCells_list (P := P) w a cs hc
    simp only [if_true, Sem.run_bind, ok.run_sizeOf, Result.andThen, ← hl, this, Sem.run_pure]
    simp
  | false =>
    simp only [hg] at hv
    have := hc 0 v hv
    rw [show a.add 0 = a from rfl] at this
    simp only [Bool.false_eq_true, if_false, run_load, this]
/-- A variable stored into, in the middle of a block. -/
theorem run_storeVar_cells {t : Nat} {i : TI} (hi : ti P t = some i) {b off e : Nat} {cur vs : List Value} {v : Value} (hb : w.heap[b]? = some (.cells cur.toArray e)) (hv : v.cells = vs.toArray) (hs : vs.length = i.size)
    (hf : off + vs.length ≤ cur.length) (h1 : ∀ u ∈ vs, u.oneCell' = true) : (storeVar t ⟨b, off, none⟩ v).run P w = .ok () (w.setRow b (cur.take off ++ vs ++ cur.drop (off + vs.length)).toArray) := by
  have ok := ti_ok hi
  have hst := run_storeCells_at P b off e vs 0 cur.toArray w hb (by simpa using hf) h1
  simp only [Nat.add_zero] at hst
  simp only [storeVar, Sem.run_bind, ok.run_sizeOf, Result.andThen, hv, List.size_toArray, ne_eq, Sem.run_ite]
  rw [if_neg (by simp [hs])]
  exact hst
theorem sat.setRow {R : Res} {b e : Nat} {cur new : List Value} {l : List HProp} (h : sat R (Bw.pt b (.cells cur.toArray e) :: l) w) : sat R (Bw.pt b (.cells new.toArray e) :: l) (w.setRow b new.toArray) :=
  h.modify rfl rfl rfl (Nat.le_refl _) (setRow_heap w b _ _ _ _ h.pt) (fun x hx => setRow_other w b x _ hx)
end
section
variable {P : Program} [Tys P] {os : List Oper} {Q : Exit → Act → World → Prop} {rest : List Oper} {n : Nat} {ds : List Deferred} {R : Res} {env : List (Nat × Value)} {l l' : List HProp}
variable {d ty : Nat} {pos : String} {af : Array Edge} {g : Option (Nat × Bool)}
/-- An operation that yields a value, in a world that hangs on the one at hand. -/
theorem op_ex {o : Oper} {d : Nat} (hg : grd os env o.guard = some true) (hdst : o.dst = some d) (hd : Nat.blt d n = true)
    (h : ∀ a w, Env n ds env a → sat R l w → ∃ v w' l', (execOp a.eval o).run P w = .ok (.value v) w' ∧ sat R l' w' ∧ At n ds R ((d, v) :: env) l' (wpList P os.toArray Q rest)) :
    At n ds R env l (wpList P os.toArray Q (o :: rest)) := fun a w e hs => by
  refine wpList_step fun K hK => ?_
  rw [if_pos (grd_ok e hg)]
  obtain ⟨v, w', l', hr, hs', k⟩ := h a w e hs
  unfold Oper.wp
  rw [hr]
  show K (a.put o.dst v) w'
  rw [hdst]
  exact hK _ _ (k _ _ (e.put hd v) hs')
theorem op_sk {o : Oper} (hg : grd os env o.guard = some true) (hdst : o.dst = none)
    (h : ∀ a w, Env n ds env a → sat R l w → ∃ w' l', (execOp a.eval o).run P w = .ok .skip w' ∧ sat R l' w' ∧ At n ds R env l' (wpList P os.toArray Q rest)) :
    At n ds R env l (wpList P os.toArray Q (o :: rest)) := fun a w e hs => by
  refine wpList_step fun K hK => ?_
  rw [if_pos (grd_ok e hg)]
  obtain ⟨w', l', hr, hs', k⟩ := h a w e hs
  unfold Oper.wp
  rw [hr]
  show K (a.put o.dst undef) w'
  rw [hdst]
  exact hK _ _ (k _ _ e hs')
/-- 'new' of a type: a block of its own, at its zero value. -/
theorem At.alloc {t : Nat} {i : TI} (hg : grd os env g = some true) (hi : ti P t = some i) (hd : Nat.blt d n = true)
    (h : ∀ b, At n ds R ((d, .pointer (some ⟨b, 0, none⟩)) :: env) (pt b (.cells i.zero.toArray t) :: l) (wpList P os.toArray Q rest)) :
    At n ds R env l (wpList P os.toArray Q (⟨some d, .alloc t, ty, pos, af, g⟩ :: rest)) := op_ex hg rfl hd fun a w e hs => by
  obtain ⟨x, z, hx, h1, h2, hz, hc⟩ := (ti_ok hi).info
  refine ⟨_, _, _, ?_, hs.alloc (.cells i.zero.toArray t), h _⟩
  simp [execOp, Instr.alloc, zeroValue, typeInfo, hx, hz, newVar, newRow, hc]
/-- A variable of its own, with a value. -/
theorem At.box {t : Nat} {x : Operand} {v : Value} {cs : List Value} (hg : grd os env g = some true) (hx : ev env x = some v) (hc : v.cells.toList = cs) (hd : Nat.blt d n = true)
    (h : ∀ b, At n ds R ((d, .pointer (some ⟨b, 0, none⟩)) :: env) (pt b (.cells cs.toArray t) :: l) (wpList P os.toArray Q rest)) :
    At n ds R env l (wpList P os.toArray Q (⟨some d, .box t x, ty, pos, af, g⟩ :: rest)) := op_ex hg rfl hd fun a w e hs => by
  refine ⟨_, _, _, ?_, hs.alloc (.cells cs.toArray t), h _⟩
  simp [execOp, Instr.box, newVar, newRow, e.ev hx, ← hc]
theorem partOf_cut {t off : Nat} {i : TI} {cs : List Value} {v : Value} (hi : ti P t = some i) (hz : Nat.blt 0 i.size = true) (hv : partOf P t off cs = some v) : partOf P t 0 ((cs.drop off).take i.size) = some v := by
  have hz' : 0 < i.size := by simpa using hz
  unfold partOf at hv ⊢
  rw [hi] at hv ⊢
  cases hg : agg i.k with
  | true => simp only [hg] at hv ⊢; rw [← hv]; simp [List.take_take]
  | false =>
    simp only [hg] at hv ⊢
    have hoff := (List.getElem?_eq_some_iff.1 hv).1
    rw [List.getElem?_take, if_pos hz', List.getElem?_drop, ← hv]
    simp
theorem drop_take_get {cs : List Value} {off m j : Nat} {u : Value} (hu : ((cs.drop off).take m)[j]? = some u) : cs[off + j]? = some u := by
  have hj : j < m := by
    have := (List.getElem?_eq_some_iff.1 hu).1
    simp at this
    omega
  rw [List.getElem?_take, if_pos hj, List.getElem?_drop] at hu
  exact hu
/-- A variable of the call's own is read. -/
theorem Y.load {t b off e : Nat} {i : TI} {x : Operand} {cs : List Value} {v : Value} {dd : Option Nat} (hi : ti P t = some i) (hx : ev env x = some (.pointer (some ⟨b, off, none⟩))) (f : Frt l (pt b (.cells cs.toArray e)) l')
    (hl : Nat.ble (off + i.size) cs.length = true) (hz : Nat.blt 0 i.size = true) (hv : partOf P t off cs = some v) :
    Y P n ds R env l ⟨dd, .load t x, ty, pos, af, g⟩ v := fun a w e hs => by
  have hb := (hs.frt f).pt
  have hl' : off + i.size ≤ cs.length := by simpa using hl
  have := run_loadVar_cells (P := P) (w := w) (a := ⟨b, off, none⟩) (cs := (cs.drop off).take i.size) (v := v) hi (by simp; omega) (fun j u hu => by
    rw [add_lit, cell_of hb]; exact drop_take_get hu) (partOf_cut hi hz hv)
  simp only [execOp, e.ev hx, Instr.loadAt, Instr.sureAddr, Sem.run_bind, Sem.run_pure, Result.andThen, this]
/-- A variable of the call's own is written. -/
theorem At.store {t b off e : Nat} {i : TI} {x y : Operand} {cs vs cs' : List Value} {v : Value} (hg : grd os env g = some true) (hi : ti P t = some i) (hx : ev env x = some (.pointer (some ⟨b, off, none⟩))) (hy : ev env y = some v) (f : Frt l (pt b (.cells cs.toArray e)) l')
    (hv : v.cells.toList = vs) (hs : Nat.beq vs.length i.size = true) (h1 : vs.all (·.oneCell') = true) (p : Put cs off vs cs') (h : At n ds R env (pt b (.cells cs'.toArray e) :: l') (wpList P os.toArray Q rest)) :
    At n ds R env l (wpList P os.toArray Q (⟨none, .store t x y, ty, pos, af, g⟩ :: rest)) := op_sk hg rfl fun a w e0 hs0 => by
  obtain ⟨p1, p2⟩ := p.eq
  have hs1 := hs0.frt f
  have hvc : v.cells = vs.toArray := by rw [← hv]
  have := run_storeVar_cells (P := P) (w := w) hi (off := off) hs1.pt hvc (by simpa using hs) p1 (by simpa using h1)
  refine ⟨_, _, ?_, hs1.setRow, h⟩
  rw [p2]
  simp only [execOp, e0.ev hx, e0.ev hy, Instr.storeAt, Instr.sureAddr, Sem.run_bind, Sem.run_pure, Result.andThen, this]

/-! ### Rows -/
def own (e sz : Nat) (A : Option Addr) (n c : Nat) (xs : List Value) : HProp := fun h =>
  xs.length = n * sz ∧ ((A = none ∧ n = 0 ∧ c = 0) ∨ ∃ g cur, A = some ⟨g, 0, none⟩ ∧ h g = some (.cells cur e) ∧ n ≤ c ∧ c ≤ maxLen ∧ cur.size = c * sz ∧ cur.toList.take (n * sz) = xs)
theorem own_world {e sz : Nat} {A : Option Addr} {m c : Nat} {xs : List Value} {h : PHeap} {w : World} (o : own e sz A m c xs h) (s : Sub h (wh w)) : w.ownsRow 0 e sz (.slice A m c) m xs := by
  obtain ⟨h1, h2⟩ := o
  refine ⟨h1, ?_⟩
  rcases h2 with ⟨rfl, rfl, rfl⟩ | ⟨g, cur, rfl, hg, h3, h4, h5, h6⟩
  · exact .inl ⟨rfl, rfl⟩
  · exact .inr ⟨g, c, cur, rfl, Nat.zero_le _, s g _ hg, h3, h4, h5, h6⟩
theorem world_own {e sz : Nat} {v : Value} {m : Nat} {xs : List Value} {w : World} (o : w.ownsRow 0 e sz v m xs) : ∃ A c, v = .slice A m c ∧ ∀ h : PHeap, (∀ g, A = some ⟨g, 0, none⟩ → h g = w.heap[g]?) → own e sz A m c xs h := by
  obtain ⟨h1, h2⟩ := o
  rcases h2 with ⟨rfl, rfl⟩ | ⟨g, cap, cur, rfl, _, hg, h3, h4, h5, h6⟩
  · exact ⟨none, 0, rfl, fun h _ => ⟨h1, .inl ⟨rfl, rfl, rfl⟩⟩⟩
  · exact ⟨_, cap, rfl, fun h hh => ⟨h1, .inr ⟨g, cur, rfl, by rw [hh g rfl]; exact hg, h3, h4, h5, h6⟩⟩⟩
/-- A row turned by a law that ends in 'grownBy'. -/
theorem sat.grown {e sz m m' c : Nat} {A : Option Addr} {xs ys : List Value} {v' : Value} {w w' : World} (hs : sat R (own e sz A m c xs :: l) w) (hg : w.grownBy w' (Value.slice A m c).ownBlock) (hd : w.drawn ≤ w'.drawn) (ho : w'.ownsRow 0 e sz v' m' ys)
    (hb : v'.ownBlock = (Value.slice A m c).ownBlock ∨ ∃ b, v'.ownBlock = some b ∧ w.heap.size ≤ b) : ∃ A' c', v' = .slice A' m' c' ∧ sat R (own e sz A' m' c' ys :: l) w' := by
  obtain ⟨A', c', rfl, hown⟩ := world_own ho
  refine ⟨A', c', rfl, ?_⟩
  obtain ⟨h1, a, s, k⟩ := hs.upd
  have hne : ∀ x o, w.heap[x]? = some o → h1 x = none → some x ≠ (Value.slice A m c).ownBlock := by
    intro x o hx hn he
    obtain ⟨_, h2⟩ := a
    rcases h2 with ⟨rfl, _, _⟩ | ⟨g, cur, rfl, hgg, _⟩
    · simp [Value.ownBlock] at he
    · simp [Value.ownBlock] at he
      subst he
      rw [hgg] at hn
      cases hn
  cases A' with
  | none =>
    refine k _ (fun _ => none) w' (hown _ (fun g hg => by cases hg)) hg.os hg.tape hg.output hd (fun x o hx hn => ?_) (fun _ _ e => by cases e) (fun _ _ e => by cases e)
    rw [hg.block x (Array.getElem?_eq_some_iff.1 hx).1 (hne x o hx hn)]; exact hx
  | some ad =>
    have hlt : ad.block < w'.heap.size := (ho.lt ad.block rfl).2
    refine k _ (fun x => if x = ad.block then w'.heap[ad.block]? else none) w' (hown _ (fun g hg => by cases hg; simp)) hg.os hg.tape hg.output hd (fun x o hx hn => ?_) (fun x o e => ?_) (fun x o e => ?_)
    · rw [hg.block x (Array.getElem?_eq_some_iff.1 hx).1 (hne x o hx hn)]; exact hx
    · dsimp only at e
      split at e
      · rename_i hx; subst hx; exact e
      · cases e
    · split at e
      · rename_i hx
        subst hx
        rcases hb with hb | ⟨b, hb, hle⟩
        · left
          obtain ⟨_, h2⟩ := a
          rcases h2 with ⟨rfl, _, _⟩ | ⟨g, cur, rfl, hgg, _⟩
          · simp [Value.ownBlock] at hb
          · simp [Value.ownBlock] at hb
            rw [hb]
            exact ⟨_, hgg⟩
        · right
          simp [Value.ownBlock] at hb
          subst hb
          simp; omega
      · cases e
end
end Go.Bw
