/- Arrays, struct literals, constant rounds, regions that draw an order and act. Conditions: none. -/
import Derived.Test.YtbkooifhcekpmaaGreatBwRows
import Derived.LoopN
import Derived.OrdersHeld
set_option linter.unusedVariables false
set_option linter.unusedSimpArgs false
set_option linter.unusedSectionVars false
namespace Go.Bw
open Go Go.RowKit

section
variable {P : Program} [Tys P] {os : List Oper} {Q : Exit → Act → World → Prop} {rest : List Oper} {n : Nat} {ds : List Deferred} {R : Res} {env : List (Nat × Value)} {l l' : List HProp}
variable {d ty : Nat} {pos : String} {af : Array Edge} {g : Option (Nat × Bool)} {e t : Nat} {K : Act → World → Prop} {dd : Option Nat} {c : Code}
theorem At.rounds (k : Nat) (h : At n ds R env l (Code.rounds P c Q k)) : At n ds R env l ((Code.loop c).wp P Q) := fun a w e hs => wp_loop_rounds k (h a w e hs)
theorem At.round {k : Nat} (h : At n ds R env l (c.wp P (Exit.then (Code.rounds P c Q k) Q))) : At n ds R env l (Code.rounds P c Q (k + 1)) := h
theorem Y.ixArr {x y : Operand} {i : Int} {k : IntKind} {m : Nat} {a : Addr} {ii j : TI} (hi : ti P t = some ii) (hk : ii.k = .array m e) (hx : ev env x = some (.pointer (some a))) (hy : ev env y = some (.int k i)) (hj : ti P e = some j) (h0 : 0 ≤ i) (h1 : i < (m : Int)) :
    Y P n ds R env l ⟨dd, .indexAddr t x y, ty, pos, af, g⟩ (.pointer (some (a.add (i.toNat * j.size)))) := fun a' w e0 hs => by
  have hc : 0 ≤ i ∧ i < (m : Int) := ⟨h0, h1⟩
  simp [execOp, Instr.indexAt, e0.ev hx, e0.ev hy, asIntOf, run_underlying ((ti_ok hi).array hk), Instr.sureAddr, (ti_ok hj).run_sizeOf, hc]
theorem Y.ixSome {x y : Operand} {i : Int} {k : IntKind} {m c : Nat} {a : Addr} {ii j : TI} (hi : ti P t = some ii) (hk : ii.k = .slice e) (hx : ev env x = some (.slice (some a) m c)) (hy : ev env y = some (.int k i)) (hj : ti P e = some j) (h0 : 0 ≤ i) (h1 : i < (m : Int)) :
    Y P n ds R env l ⟨dd, .indexAddr t x y, ty, pos, af, g⟩ (elp (some a) (i.toNat * j.size)) := fun a' w e0 hs => by
  have hc : 0 ≤ i ∧ i < (m : Int) := ⟨h0, h1⟩
  simp [execOp, Instr.indexAt, e0.ev hx, e0.ev hy, asIntOf, run_underlying ((ti_ok hi).slice hk), (ti_ok hj).run_sizeOf, hc, elp]
theorem Y.ixA {x y : Operand} {i : Int} {k : IntKind} {m : Nat} {cs : List Value} {v : Value} {ii j : TI} (hi : ti P t = some ii) (hk : ii.k = .array m e) (hx : ev env x = some (.agg cs.toArray)) (hy : ev env y = some (.int k i)) (hj : ti P e = some j) (h0 : 0 ≤ i) (h1 : i < (m : Int))
    (hv : partOf P e (i.toNat * j.size) cs = some v) : Y P n ds R env l ⟨dd, .index t x y, ty, pos, af, g⟩ v := fun a' w e0 hs => by
  have hc : 0 ≤ i ∧ i < (m : Int) := ⟨h0, h1⟩
  simp [execOp, Instr.index, e0.ev hx, e0.ev hy, asIntOf, run_underlying ((ti_ok hi).array hk), (ti_ok hj).run_sizeOf, hc, run_part hv]
/-- Where the fields of a struct lie. -/
def places (P : Program) [Tys P] : List (Nat × Nat) → Option (List (Nat × Nat))
  | [] => some []
  | (ft, off) :: r => match ti P ft, places P r with
    | some j, some l => some ((off, j.size) :: l)
    | _, _ => none
theorem mapM_places {w : World} : ∀ {f : List Field} {fs : List (Nat × Nat)} {pl : List (Nat × Nat)}, f.map (fun f => (f.type, f.offset)) = fs → places P fs = some pl →
    (f.mapM (fun f => Prod.mk f.offset <$> sizeOf f.type : Field → Sem (Nat × Nat))).run P w = .ok pl w
  | [], _, pl, rfl, h => by cases h; rfl
  | f :: r, _, pl, rfl, h => by
    simp only [List.map_cons, places] at h
    split at h
    · rename_i j l hj hl
      cases h
      simp only [List.mapM_cons, Sem.run_bind, Sem.run_map, (ti_ok hj).run_sizeOf, Result.andThen, Sem.run_pure, mapM_places rfl hl]
    · cases h
theorem run_zero {j : TI} (hj : ti P t = some j) (w : World) : ∃ z, (zeroValue t).run P w = .ok z w ∧ z.cells = j.zero.toArray := by
  obtain ⟨x, z, hx, _, _, hz, hc⟩ := (ti_ok hj).info
  exact ⟨z, by simp [zeroValue, typeInfo, hx, hz], hc⟩
theorem Y.build {parts : Array (Nat × Operand)} {is : List Nat} {xo : List Operand} {vs cs : List Value} {fs pl : List (Nat × Nat)} {ii : TI} (hi : ti P t = some ii) (hk : ii.k = .struct fs) (hp : parts.toList = is.zip xo) (hv : vals env xo = some vs) (hl : places P fs = some pl)
    (hf : Instr.fill (fun i => pl[i]?) ii.zero.toArray (is.zip vs) = some cs.toArray) : Y P n ds R env l ⟨dd, .build t parts, ty, pos, af, g⟩ (.agg cs.toArray) := fun a w e0 hs => by
  obtain ⟨fl, hu, hm⟩ := (ti_ok hi).struct hk
  obtain ⟨z, hz, hc⟩ := run_zero hi w
  have h1 := vals_ok e0 hv
  have h2 : parts.map (fun p => (p.1, a.eval p.2)) = (is.zip vs).toArray := by
    apply Array.ext'
    rw [Array.toList_map, hp, ← h1]
    clear hp hv hf h1
    induction is generalizing xo with
    | nil => simp
    | cons i is ih => cases xo with
      | nil => simp
      | cons x xo => simpa using ih
  have h3 := mapM_places (P := P) (w := w) hm hl
  obtain ⟨fl⟩ := fl
  have h4 : Instr.fill (fun i => pl.toArray[i]?) ii.zero.toArray (is.zip vs) = some cs.toArray := by simpa using hf
  have h5 : (Array.mapM (fun f => Prod.mk f.offset <$> sizeOf f.type : Field → Sem (Nat × Nat)) fl.toArray).run P w = .ok pl.toArray w := by
    rw [List.mapM_toArray, Sem.run_map, h3]
    rfl
  have h6 : (fun f : Field => (do pure (f.offset, ← sizeOf f.type) : Sem (Nat × Nat))) = fun f => Prod.mk f.offset <$> sizeOf f.type := by
    funext f
    simp
  simp only [execOp, Instr.build, Sem.run_bind, hz, Result.andThen, run_underlying hu, hc, h6, h5, h2, h4, Sem.run_pure]

/-! ### Regions that draw an order, and act -/
def onN (K : Act → World → Prop) : Exit → Act → World → Prop := fun e a w => e = .normal ∧ K a w
theorem not_out {K : Act → World → Prop} : ¬ LetsOut (onN K) := fun ⟨_, _, h, _⟩ => by cases h
theorem upon_onN {o : Oper} {a : Act} {K K' : Act → World → Prop} {r : Result Next} (h : o.upon P a (onN K' .normal) (onN K') r) : o.upon P a K' (onN K) r := by
  cases r with
  | ok x w' =>
    cases x <;> simp only [Oper.upon] at h ⊢
    case value v => exact h.2
    case skip => exact h.2
    case defer => exact h.2
    case enter f args =>
      refine Calls.mono h fun e w'' he => ?_
      cases e with
      | returned u => exact he.2
      | panicked c => exact absurd he.1 (by simp)
      | outgrown => exact (not_out he).elim
    case row => exact Rows.mono h fun v w'' he => he.2
  | halt x w' =>
    cases x <;> simp only [Oper.upon] at h ⊢
    case panic => exact absurd h.1 (by simp)
theorem wpOp_of_list {ops : Array Oper} {i : Nat} {o : Oper} {K K' : Act → World → Prop} {a : Act} {w : World} (hi : ops[i]? = some o) (h : wpList P ops (onN K') [o] a w) : wpOp P ops (onN K) i K' a w := by
  unfold wpOp
  simp only [hi]
  unfold wpList at h
  split
  · rename_i hw
    rw [if_pos hw] at h
    rcases h with h | ⟨_, h⟩
    · exact .inl (upon_onN h)
    · exact (not_out h).elim
  · rename_i hw
    rw [if_neg hw] at h
    exact h.2
/-- Whatever order is drawn from here on, with 'S' of the world at every point. -/
def At.H (P : Program) (n : Nat) (ds : List Deferred) (R : Res) (env : List (Nat × Value)) (l : List HProp) (os : List Oper) (S : World → Prop) (fuel : Nat) (listed : Array Bool) (K : Act → World → Prop) : Prop :=
  At n ds R env l (wpAnyH P .any os.toArray (onN K) S fuel listed)
def At.HO (P : Program) (n : Nat) (ds : List Deferred) (R : Res) (env : List (Nat × Value)) (l : List HProp) (os : List Oper) (S : World → Prop) (fuel : Nat) (listed : Array Bool) (K : Act → World → Prop) (i : Nat) : Prop :=
  At n ds R env l (wpOp P os.toArray (onN K) i fun a w => S w ∧ wpAnyH P .any os.toArray (onN K) S fuel (listed.setIfInBounds i true) a w)
inductive Keep : List HProp → List HProp → Prop
  | n {k : List HProp} : Keep k []
  | c {k k' m : List HProp} {p : HProp} : Frt k p k' → Keep k' m → Keep k (p :: m)
theorem Keep.stars {l m : List HProp} (k : Keep l m) : ∀ {h : PHeap}, stars l h → stars m h := by
  induction k with
  | n => intro h _; trivial
  | c f _ ih =>
    intro h s
    obtain ⟨h1, h2, a, b, d, s1, s2⟩ := stars_frt f s
    exact ⟨h1, h2, a, ih b, d, s1, s2⟩
theorem sat.keep {l m : List HProp} {w : World} (k : Keep l m) (h : sat R l w) : sat R m w := let ⟨ok, k1, s, d, u⟩ := h; ⟨ok, k1, k.stars s, d, u⟩
theorem At.held [Mixed P] {id : Nat} {os : List Oper} (Ls : List HProp) (k : Nat) (hk : os.length = k) (h : At.H P n ds R env l os (sat R Ls) k (Array.replicate k false) (Q .normal)) : At n ds R env l ((Code.region id os.toArray true).wp P Q) := fun a w e hs => by
  subst hk
  exact
  wp_mono (Q := onN (Q .normal)) (wp_region_held Mixed.mixed (by simpa using h a _ e hs.drew)) fun e' a' w' h' => by obtain ⟨rfl, h'⟩ := h'; exact h'
variable {S : World → Prop} {fuel : Nat} {listed listed' : Array Bool} {Ls : List HProp}
theorem At.H.take (i : Nat) {o : Oper} {v : Value} (hi : os[i]? = some o) (hs : Region.noSelect os.toArray = true) (hf : Region.free .any os.toArray listed i = true) (hr : (Region.ready .any os.toArray listed).contains i = true)
    (y : Y P n ds R env Ls o v) (hg : grd os env o.guard = some true) (hdst : o.dst = some d) (hd : Nat.blt d n = true) (kp : Keep l Ls)
    (k : At.H P n ds R ((d, v) :: env) l os (sat R Ls) fuel (listed.setIfInBounds i true) K) : At.H P n ds R env l os (sat R Ls) (fuel + 1) listed K := fun a w e hs' => by
  refine wpAnyH_take (i := i) (v := v) (by simpa using hi) hs hf hr (fun c a w h => absurd h.1 (by simp)) (.inl ⟨grd_ok e hg, fun w hS => y a w e hS⟩) (hs'.keep kp) ?_
  rw [hdst]
  exact k _ _ (e.put hd v) hs'
theorem At.H.skip (i : Nat) {o : Oper} (hi : os[i]? = some o) (hs : Region.noSelect os.toArray = true) (hf : Region.free .any os.toArray listed i = true) (hr : (Region.ready .any os.toArray listed).contains i = true)
    (hg : grd os env o.guard = some false) (hdst : o.dst = some d) (hd : Nat.blt d n = true) (kp : Keep l Ls)
    (k : At.H P n ds R ((d, undef) :: env) l os (sat R Ls) fuel (listed.setIfInBounds i true) K) : At.H P n ds R env l os (sat R Ls) (fuel + 1) listed K := fun a w e hs' => by
  refine wpAnyH_take (i := i) (v := undef) (by simpa using hi) hs hf hr (fun c a w h => absurd h.1 (by simp)) (.inr ⟨grd_ok e hg, rfl⟩) (hs'.keep kp) ?_
  rw [hdst]
  exact k _ _ (e.put hd undef) hs'
theorem At.H.pv (i : Nat) {o : Oper} {v : Value} (hi : os[i]? = some o) (hs : Region.noSelect os.toArray = true) (hf : Region.free .any os.toArray listed i = true) (hr : (Region.ready .any os.toArray listed).contains i = true)
    (y : Bw.pv P env o.op = some v) (hg : grd os env o.guard = some true) (hdst : o.dst = some d) (hd : Nat.blt d n = true) (kp : Keep l Ls)
    (k : At.H P n ds R ((d, v) :: env) l os (sat R Ls) fuel (listed.setIfInBounds i true) K) : At.H P n ds R env l os (sat R Ls) (fuel + 1) listed K :=
  At.H.take i hi hs hf hr (fun a w e _ => pv_ok e y) hg hdst hd kp k
theorem At.H.all (rs : List Nat) (hr : Region.ready .any os.toArray listed = rs) (hne : rs.isEmpty = false) (h : ∀ i ∈ rs, At.HO P n ds R env l os S fuel listed K i) : At.H P n ds R env l os S (fuel + 1) listed K := fun a w e hs =>
  wpAnyH_all hr (fun h0 => by rw [h0] at hne; cases hne) fun i hi => h i hi a w e hs
theorem all_cons {p : Nat → Prop} {i : Nat} {r : List Nat} (h : p i) (h' : ∀ j ∈ r, p j) : ∀ j ∈ i :: r, p j := fun j hj => by
  rcases List.mem_cons.1 hj with rfl | hj
  · exact h
  · exact h' j hj
theorem all_nil {p : Nat → Prop} : ∀ j ∈ ([] : List Nat), p j := fun _ h => by cases h
theorem At.HO.op {i : Nat} {o : Oper} (hi : os[i]? = some o) (h : At n ds R env l (wpList P os.toArray (onN fun a w => S w ∧ wpAnyH P .any os.toArray (onN K) S fuel (listed.setIfInBounds i true) a w) [o])) : At.HO P n ds R env l os S fuel listed K i := fun a w e hs =>
  wpOp_of_list (by simpa using hi) (h a w e hs)
theorem At.HO.back (kp : Keep l Ls) (h : At.H P n ds R env l os (sat R Ls) fuel listed K) : At n ds R env l (wpList P os.toArray (onN fun a w => sat R Ls w ∧ wpAnyH P .any os.toArray (onN K) (sat R Ls) fuel listed a w) []) := fun a w e hs =>
  ⟨rfl, hs.keep kp, h a w e hs⟩
theorem At.H.done (hr : Region.ready .any os.toArray listed = []) (h : At n ds R env l K) : At.H P n ds R env l os S fuel listed K := fun a w e hs => wpAnyH_done hr ⟨rfl, h a w e hs⟩ _
end

/-! ### A contract, the pieces standing elsewhere -/
theorem Frt.back {l l' : List HProp} {c : HProp} (f : Frt l c l') : ∀ {h : PHeap}, stars (c :: l') h → stars l h := by
  induction f with
  | z => exact fun s => s
  | s f ih =>
    rintro h ⟨h1, h2, a, ⟨k1, k2, b, r, d2, t1, t2⟩, d, s1, s2⟩
    have d13 : Disj h1 k1 := d.sub (Sub.refl _) t1
    have d23 : Disj h1 k2 := d.sub (Sub.refl _) t2
    refine ⟨k1, uni h1 k2, b, ih ⟨h1, k2, a, r, d23, uni_left _ _, uni_right d23⟩, ?_, t1.trans s2, uni_sub s1 (t2.trans s2)⟩
    exact Disj.uni_r d13.symm d2
theorem sat.back {R : Res} {l l' : List HProp} {c : HProp} {w : World} (f : Frt l c l') (h : sat R (c :: l') w) : sat R l w := let ⟨ok, k, s, d, u⟩ := h; ⟨ok, k, f.back s, d, u⟩
theorem Spec.frt {P : Program} {f : Nat} {args : List Value} {R : Res} {l l' : List HProp} {c : HProp} {v : Value} (fr : Frt l c l') (h : Spec P f args R (c :: l') fun u m => u = v ∧ c :: l' = m) : Spec P f args R l fun u m => u = v ∧ l = m := fun w hs =>
  (h w (hs.frt fr)).mono fun e w' ⟨u, m, he, ⟨hu, hm⟩, hs'⟩ => ⟨u, l, he, ⟨hu, rfl⟩, by subst hm; exact hs'.back fr⟩
end Go.Bw
