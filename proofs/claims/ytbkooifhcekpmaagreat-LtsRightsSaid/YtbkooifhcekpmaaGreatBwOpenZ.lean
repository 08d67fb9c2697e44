/- A law's start: what came in, and how much of it there may be. Conditions: none. -/
import Derived.Test.YtbkooifhcekpmaaGreatBwOpenG
set_option linter.unusedVariables false
set_option linter.unusedSimpArgs false
set_option linter.unusedSectionVars false
namespace Go.Bw
open Go Go.RowKit Go.ChangeShapes Go.WideShapes Go.Deep

/-- What reads as type t is told by T, and has S. -/
def OpensZ {α : Type} (P : Program) (T : Rep α) (t : Nat) (S Z : α → Prop) : Prop := P.cellsOf t = T.sz ∧ ∀ {H : Type} {enc : TypeId × Value → H} {W : World} {base : Nat} {held : Bool} (fuel : Nat) (cs : List Value) (x : DataW H × List MemPlace),
  DataW.trod enc P W base (fun _ => true) held fuel t cs = some x → ∃ a, T.K (wh W) a cs ∧ S a ∧ ((∀ w ∈ DataW.weights P t x.1, w ≤ reachBytes) → Z a)
section
variable {P : Program} {α β γ δ : Type}
theorem OpensZ.int {t : Nat} {k : IntKind} (ht : P.underlying t = some (.int k)) (hc : P.cellsOf t = 1) : OpensZ P (Fl.int k).rep t (fun a => (Lit.int k a).wf = true) (fun _ => True) := ⟨hc, fun fuel cs x h => by
  obtain ⟨n, rfl, _, hw⟩ := DataW.trod_int ht h
  exact ⟨n, rfl, hw, fun _ => trivial⟩⟩
theorem OpensZ.str {t : Nat} (ht : P.underlying t = some .string) (hc : P.cellsOf t = 1) : OpensZ P Fl.bs.rep t (fun a => a.length ≤ maxLen) (fun _ => True) := ⟨hc, fun fuel cs x h => by
  obtain ⟨s, rfl, _, hw⟩ := DataW.trod_string ht h
  obtain ⟨⟨l⟩⟩ := s
  exact ⟨l, rfl, hw, fun _ => trivial⟩⟩
theorem OpensZ.slice {T : Rep α} {S Z : α → Prop} {t e : Nat} (ht : P.underlying t = some (.slice e)) (hc : P.cellsOf t = 1) (o : OpensZ P T e S Z) : OpensZ P T.slice t (fun xs => xs.length ≤ maxLen ∧ ∀ x ∈ xs, S x) (fun xs => xs.length * P.bytesOf e ≤ reachBytes ∧ ∀ x ∈ xs, Z x) := ⟨hc, fun {H enc W base held} fuel cs x h => by
  rcases DataW.trod_slice ht h with ⟨rfl, _⟩ | ⟨a, len, cap, elems, rest, n, _, rfl, hxe, hb, hl, hm, hel, he, _⟩
  · exact ⟨[], ⟨none, 0, rfl, Nat.le_refl _, RdS.nil _ _ _⟩, ⟨by simp, by simp⟩, fun _ => ⟨by simp, by simp⟩⟩
  · have each : ∀ i, i < len → ∃ a' cs', T.K (wh W) a' cs' ∧ (S a' ∧ ((∀ y ∈ elems, ∀ w ∈ DataW.weights P e y.1, w ≤ reachBytes) → Z a')) ∧ RdA (wh W) (a.add (i * T.sz)) cs' := fun i hi => by
      have h1 := he i hi
      rw [List.getElem?_eq_getElem (by omega)] at h1
      obtain ⟨cs', hcs, htr⟩ := Option.bind_eq_some_iff.1 h1
      obtain ⟨a', hk, hs, hz⟩ := o.2 _ _ _ htr
      obtain ⟨_, h2, h3⟩ := World.cells?_some hcs
      refine ⟨a', cs', hk, ⟨hs, fun hw => hz (hw _ (List.getElem_mem _))⟩, rdA_of fun j u hu => ?_⟩
      have hj : j < P.cellsOf e := by
        have := (List.getElem?_eq_some_iff.1 hu).1
        omega
      rw [← o.1]
      have := h3 j hj
      rw [this]; exact hu
    have hch : ∀ i : Fin len, ∃ a' cs', T.K (wh W) a' cs' ∧ (S a' ∧ ((∀ y ∈ elems, ∀ w ∈ DataW.weights P e y.1, w ≤ reachBytes) → Z a')) ∧ RdA (wh W) (a.add (i.1 * T.sz)) cs' := fun i => each i.1 i.2
    refine ⟨(List.finRange len).map fun i => (hch i).choose, ⟨some a, cap, by simp, by simpa using hl, fun i y hy => ?_⟩, ⟨by simp; omega, fun y hy => ?_⟩, fun hw => ⟨?_, fun y hy => ?_⟩⟩
    · have hi : i < len := by simpa using (List.getElem?_eq_some_iff.1 hy).1
      rw [List.getElem?_map, List.getElem?_eq_getElem (by simpa using hi)] at hy
      have hy' : (hch ⟨i, hi⟩).choose = y := by simpa using hy
      obtain ⟨cs', k1, k2, k3⟩ := (hch ⟨i, hi⟩).choose_spec
      exact ⟨a, cs', rfl, hy' ▸ k1, k3⟩
    · obtain ⟨i, _, rfl⟩ := List.mem_map.1 hy
      obtain ⟨cs', k1, k2, k3⟩ := (hch i).choose_spec
      exact k2.1
    · have := hw (((elems.map (·.1)).length + (rest.map (·.1)).length) * P.bytesOf e) (by rw [hxe]; simp [DataW.weights, ht])
      simp only [List.length_map, List.length_finRange] at this ⊢
      exact Nat.le_trans (Nat.mul_le_mul_right _ (by omega)) this
    · obtain ⟨i, _, rfl⟩ := List.mem_map.1 hy
      obtain ⟨cs', k1, k2, k3⟩ := (hch i).choose_spec
      exact k2.2 fun y hy w hwy => hw w (by
        have := all_sub (P := P) (e := e) (es := elems.map (·.1)) (List.mem_map_of_mem hy) w hwy
        rw [hxe]
        simp only [DataW.weights, ht, List.mem_append, List.mem_cons]
        first | exact .inr (.inl this) | exact .inr this | (simp [this]))⟩
theorem OpensZ.st2 {T : Rep α} {U : Rep β} {S Z : α → Prop} {S' Z' : β → Prop} {t : Nat} {f0 f1 : Field} (ht : P.underlying t = some (.struct #[f0, f1])) (o0 : OpensZ P T f0.type S Z) (o1 : OpensZ P U f1.type S' Z') (h0 : f0.offset = 0) (h1 : f1.offset = T.sz) (hc : P.cellsOf t = T.sz + U.sz) :
    OpensZ P (T.pair U) t (fun p => S p.1 ∧ S' p.2) (fun p => Z p.1 ∧ Z' p.2) := ⟨hc, fun fuel cs x h => by
  obtain ⟨y0, y1, n, hx, hl, g0, g1⟩ := trod_struct2 ht h
  obtain ⟨a, ka, sa, za⟩ := o0.2 _ _ _ g0
  obtain ⟨b, kb, sb, zb⟩ := o1.2 _ _ _ g1
  rw [h0, o0.1, List.drop_zero] at ka
  rw [h1, o1.1] at kb
  exact ⟨(a, b), ⟨_, _, cut2 (by rw [hl, hc]), ka, kb⟩, ⟨sa, sb⟩, fun hw => ⟨za fun w hq => (hw w (by rw [(Prod.mk.inj hx).1]; simp [DataW.weights, DataW.weightsEach, ht, hq])), zb fun w hq => (hw w (by rw [(Prod.mk.inj hx).1]; simp [DataW.weights, DataW.weightsEach, ht, hq]))⟩⟩⟩
theorem OpensZ.st3 {T : Rep α} {U : Rep β} {V : Rep γ} {S Z : α → Prop} {S' Z' : β → Prop} {S'' Z'' : γ → Prop} {t : Nat} {f0 f1 f2 : Field} (ht : P.underlying t = some (.struct #[f0, f1, f2])) (o0 : OpensZ P T f0.type S Z) (o1 : OpensZ P U f1.type S' Z') (o2 : OpensZ P V f2.type S'' Z'') (h0 : f0.offset = 0) (h1 : f1.offset = T.sz) (h2 : f2.offset = T.sz + U.sz)
    (hc : P.cellsOf t = T.sz + (U.sz + V.sz)) : OpensZ P (T.pair (U.pair V)) t (fun p => S p.1 ∧ S' p.2.1 ∧ S'' p.2.2) (fun p => Z p.1 ∧ Z' p.2.1 ∧ Z'' p.2.2) := ⟨hc, fun fuel cs x h => by
  obtain ⟨y0, y1, y2, n, hx, hl, g0, g1, g2⟩ := trod_struct3 ht h
  obtain ⟨a, ka, sa, za⟩ := o0.2 _ _ _ g0
  obtain ⟨b, kb, sb, zb⟩ := o1.2 _ _ _ g1
  obtain ⟨c, kc, sc, zc⟩ := o2.2 _ _ _ g2
  rw [h0, o0.1, List.drop_zero] at ka
  rw [h1, o1.1] at kb
  rw [h2, o2.1, ← List.drop_drop] at kc
  have e1 : cs = cs.take T.sz ++ cs.drop T.sz := (List.take_append_drop _ _).symm
  have e2 := cut2 (cs := cs.drop T.sz) (a := U.sz) (b := V.sz) (by simp; omega)
  exact ⟨(a, b, c), ⟨_, _, e1, ka, _, _, e2, kb, kc⟩, ⟨sa, sb, sc⟩, fun hw => ⟨za fun w hq => (hw w (by rw [(Prod.mk.inj hx).1]; simp [DataW.weights, DataW.weightsEach, ht, hq])), zb fun w hq => (hw w (by rw [(Prod.mk.inj hx).1]; simp [DataW.weights, DataW.weightsEach, ht, hq])), zc fun w hq => (hw w (by rw [(Prod.mk.inj hx).1]; simp [DataW.weights, DataW.weightsEach, ht, hq]))⟩⟩⟩
theorem OpensZ.st4 {T : Rep α} {U : Rep β} {V : Rep γ} {X : Rep δ} {S Z : α → Prop} {S' Z' : β → Prop} {S'' Z'' : γ → Prop} {S3 Z3 : δ → Prop} {t : Nat} {f0 f1 f2 f3 : Field} (ht : P.underlying t = some (.struct #[f0, f1, f2, f3])) (o0 : OpensZ P T f0.type S Z) (o1 : OpensZ P U f1.type S' Z') (o2 : OpensZ P V f2.type S'' Z'') (o3 : OpensZ P X f3.type S3 Z3)
    (h0 : f0.offset = 0) (h1 : f1.offset = T.sz) (h2 : f2.offset = T.sz + U.sz) (h3 : f3.offset = T.sz + (U.sz + V.sz)) (hc : P.cellsOf t = T.sz + (U.sz + (V.sz + X.sz))) :
    OpensZ P (T.pair (U.pair (V.pair X))) t (fun p => S p.1 ∧ S' p.2.1 ∧ S'' p.2.2.1 ∧ S3 p.2.2.2) (fun p => Z p.1 ∧ Z' p.2.1 ∧ Z'' p.2.2.1 ∧ Z3 p.2.2.2) := ⟨hc, fun fuel cs x h => by
  obtain ⟨y0, y1, y2, y3, n, hx, hl, g0, g1, g2, g3⟩ := Go.Joins.trod_struct4 ht h
  obtain ⟨a, ka, sa, za⟩ := o0.2 _ _ _ g0
  obtain ⟨b, kb, sb, zb⟩ := o1.2 _ _ _ g1
  obtain ⟨c, kc, sc, zc⟩ := o2.2 _ _ _ g2
  obtain ⟨d, kd, sd, zd⟩ := o3.2 _ _ _ g3
  rw [h0, o0.1, List.drop_zero] at ka
  rw [h1, o1.1] at kb
  rw [h2, o2.1, ← List.drop_drop] at kc
  rw [h3, o3.1, ← List.drop_drop, ← List.drop_drop] at kd
  have e1 : cs = cs.take T.sz ++ cs.drop T.sz := (List.take_append_drop _ _).symm
  have e2 : cs.drop T.sz = (cs.drop T.sz).take U.sz ++ (cs.drop T.sz).drop U.sz := (List.take_append_drop _ _).symm
  have e3 := cut2 (cs := (cs.drop T.sz).drop U.sz) (a := V.sz) (b := X.sz) (by simp; omega)
  exact ⟨(a, b, c, d), ⟨_, _, e1, ka, _, _, e2, kb, _, _, e3, kc, kd⟩, ⟨sa, sb, sc, sd⟩, fun hw => ⟨za fun w hq => (hw w (by rw [(Prod.mk.inj hx).1]; simp [DataW.weights, DataW.weightsEach, ht, hq])), zb fun w hq => (hw w (by rw [(Prod.mk.inj hx).1]; simp [DataW.weights, DataW.weightsEach, ht, hq])), zc fun w hq => (hw w (by rw [(Prod.mk.inj hx).1]; simp [DataW.weights, DataW.weightsEach, ht, hq])), zd fun w hq => (hw w (by rw [(Prod.mk.inj hx).1]; simp [DataW.weights, DataW.weightsEach, ht, hq]))⟩⟩⟩
/-- Told otherwise. -/
theorem OpensZ.mk {T : Rep α} {U : Rep β} {S Z : α → Prop} {t : Nat} (o : OpensZ P T t S Z) (f : α → β) (hsz : T.sz = U.sz) (hk : ∀ {H : PHeap} {a cs}, T.K H a cs → U.K H (f a) cs) {S' Z' : β → Prop} (hs : ∀ a, S a → S' (f a)) (hz : ∀ a, Z a → Z' (f a)) : OpensZ P U t S' Z' :=
  ⟨o.1.trans hsz, fun fuel cs x h => let ⟨a, k, s, z⟩ := o.2 fuel cs x h; ⟨f a, hk k, hs a s, fun hw => hz a (z hw)⟩⟩
theorem OpensZ.get {T : Rep α} {S Z : α → Prop} {t : Nat} (o : OpensZ P T t S Z) {H : Type} {enc : TypeId × Value → H} {W : World} {base : Nat} {held : Bool} {v : Value} {d : DataW H} {ps : List MemPlace} (h : DataW.Trod enc P W base (fun _ => true) held t v d ps) : ∃ a, T.K (wh W) a v.cells.toList ∧ S a ∧ ((∀ w ∈ DataW.weights P t d, w ≤ reachBytes) → Z a) :=
  let ⟨fuel, hf⟩ := h
  o.2 fuel _ _ hf
/-- Of all that came in, one. -/
theorem weigh_one {H : Type} {ts : List TypeId} {ds : List (DataW H)} {j : Nat} {t : TypeId} {d : DataW H} (hsz : (DataW.weightsEach P ts ds).all (· ≤ reachBytes) = true) (ht : ts[j]? = some t) (hd : ds[j]? = some d) : ∀ w ∈ DataW.weights P t d, w ≤ reachBytes := fun w hw => by
  have := List.all_eq_true.1 hsz _ (DataW.weights_mem_each ht hd w hw)
  simpa using this
end
end Go.Bw
