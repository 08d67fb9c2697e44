/- A law's start: what came in, of whatever shape that is made of numbers, truths, strings, structs and lists. Conditions: none. -/
import Derived.Test.YtbkooifhcekpmaaGreatBwOpenS
import Derived.Test.YtbkooifhcekpmaaGreatBwOwn
import Derived.ChangeArms
import Derived.DataReads
import Derived.Lib.SmallJoins
set_option linter.unusedVariables false
set_option linter.unusedSimpArgs false
set_option linter.unusedSectionVars false
namespace Go.Bw
open Go Go.RowKit Go.ChangeShapes Go.WideShapes Go.Deep

/-- What reads as type t is told by T, and has S. -/
def Opens {α : Type} (P : Program) (T : Rep α) (t : Nat) (S : α → Prop) : Prop := P.cellsOf t = T.sz ∧ ∀ {H : Type} {enc : TypeId × Value → H} {W : World} {base : Nat} {held : Bool} (fuel : Nat) (cs : List Value) (x : DataW H × List MemPlace),
  DataW.trod enc P W base (fun _ => true) held fuel t cs = some x → ∃ a, T.K (wh W) a cs ∧ S a
section
variable {P : Program} {α β γ δ : Type}
theorem Opens.int {t : Nat} {k : IntKind} (ht : P.underlying t = some (.int k)) (hc : P.cellsOf t = 1) : Opens P (Fl.int k).rep t (fun a => (Lit.int k a).wf = true) := ⟨hc, fun fuel cs x h => by
  obtain ⟨n, rfl, _, hw⟩ := DataW.trod_int ht h
  exact ⟨n, rfl, hw⟩⟩
theorem Opens.str {t : Nat} (ht : P.underlying t = some .string) (hc : P.cellsOf t = 1) : Opens P Fl.bs.rep t (fun a => a.length ≤ maxLen) := ⟨hc, fun fuel cs x h => by
  obtain ⟨s, rfl, _, hw⟩ := DataW.trod_string ht h
  obtain ⟨⟨l⟩⟩ := s
  exact ⟨l, rfl, hw⟩⟩
theorem Opens.slice {T : Rep α} {S : α → Prop} {t e : Nat} (ht : P.underlying t = some (.slice e)) (hc : P.cellsOf t = 1) (o : Opens P T e S) : Opens P T.slice t (fun xs => xs.length ≤ maxLen ∧ ∀ x ∈ xs, S x) := ⟨hc, fun {H enc W base held} fuel cs x h => by
  rcases DataW.trod_slice ht h with ⟨rfl, _⟩ | ⟨a, len, cap, elems, rest, n, _, rfl, _, hb, hl, hm, hel, he, _⟩
  · exact ⟨[], ⟨none, 0, rfl, Nat.le_refl _, RdS.nil _ _ _⟩, by simp, by simp⟩
  · have each : ∀ i, i < len → ∃ a' cs', T.K (wh W) a' cs' ∧ S a' ∧ RdA (wh W) (a.add (i * T.sz)) cs' := fun i hi => by
      have h1 := he i hi
      rw [List.getElem?_eq_getElem (by omega)] at h1
      obtain ⟨cs', hcs, htr⟩ := Option.bind_eq_some_iff.1 h1
      obtain ⟨a', hk, hs⟩ := o.2 _ _ _ htr
      obtain ⟨_, h2, h3⟩ := World.cells?_some hcs
      refine ⟨a', cs', hk, hs, rdA_of fun j u hu => ?_⟩
      have hj : j < P.cellsOf e := by
        have := (List.getElem?_eq_some_iff.1 hu).1
        omega
      rw [← o.1]
      have := h3 j hj
      rw [this]; exact hu
    have hch : ∀ i : Fin len, ∃ a' cs', T.K (wh W) a' cs' ∧ S a' ∧ RdA (wh W) (a.add (i.1 * T.sz)) cs' := fun i => each i.1 i.2
    refine ⟨(List.finRange len).map fun i => (hch i).choose, ⟨some a, cap, by simp, by simpa using hl, fun i y hy => ?_⟩, by simp; omega, fun y hy => ?_⟩
    · have hi : i < len := by simpa using (List.getElem?_eq_some_iff.1 hy).1
      rw [List.getElem?_map, List.getElem?_eq_getElem (by simpa using hi)] at hy
      have hy' : (hch ⟨i, hi⟩).choose = y := by simpa using hy
      obtain ⟨cs', k1, k2, k3⟩ := (hch ⟨i, hi⟩).choose_spec
      exact ⟨a, cs', rfl, hy' ▸ k1, k3⟩
    · obtain ⟨i, _, rfl⟩ := List.mem_map.1 hy
      obtain ⟨cs', k1, k2, k3⟩ := (hch i).choose_spec
      exact k2⟩
theorem cut2 {cs : List Value} {a b : Nat} (h : cs.length = a + b) : cs = cs.take a ++ (cs.drop a).take b := by
  rw [List.take_of_length_le (l := cs.drop a) (by simp; omega), List.take_append_drop]
theorem Opens.st2 {T : Rep α} {U : Rep β} {S : α → Prop} {S' : β → Prop} {t : Nat} {f0 f1 : Field} (ht : P.underlying t = some (.struct #[f0, f1])) (o0 : Opens P T f0.type S) (o1 : Opens P U f1.type S') (h0 : f0.offset = 0) (h1 : f1.offset = T.sz) (hc : P.cellsOf t = T.sz + U.sz) :
    Opens P (T.pair U) t (fun p => S p.1 ∧ S' p.2) := ⟨hc, fun fuel cs x h => by
  obtain ⟨y0, y1, n, _, hl, g0, g1⟩ := trod_struct2 ht h
  obtain ⟨a, ka, sa⟩ := o0.2 _ _ _ g0
  obtain ⟨b, kb, sb⟩ := o1.2 _ _ _ g1
  rw [h0, o0.1, List.drop_zero] at ka
  rw [h1, o1.1] at kb
  exact ⟨(a, b), ⟨_, _, cut2 (by rw [hl, hc]), ka, kb⟩, sa, sb⟩⟩
theorem Opens.st3 {T : Rep α} {U : Rep β} {V : Rep γ} {S : α → Prop} {S' : β → Prop} {S'' : γ → Prop} {t : Nat} {f0 f1 f2 : Field} (ht : P.underlying t = some (.struct #[f0, f1, f2])) (o0 : Opens P T f0.type S) (o1 : Opens P U f1.type S') (o2 : Opens P V f2.type S'') (h0 : f0.offset = 0) (h1 : f1.offset = T.sz) (h2 : f2.offset = T.sz + U.sz)
    (hc : P.cellsOf t = T.sz + (U.sz + V.sz)) : Opens P (T.pair (U.pair V)) t (fun p => S p.1 ∧ S' p.2.1 ∧ S'' p.2.2) := ⟨hc, fun fuel cs x h => by
  obtain ⟨y0, y1, y2, n, _, hl, g0, g1, g2⟩ := trod_struct3 ht h
  obtain ⟨a, ka, sa⟩ := o0.2 _ _ _ g0
  obtain ⟨b, kb, sb⟩ := o1.2 _ _ _ g1
  obtain ⟨c, kc, sc⟩ := o2.2 _ _ _ g2
  rw [h0, o0.1, List.drop_zero] at ka
  rw [h1, o1.1] at kb
  rw [h2, o2.1, ← List.drop_drop] at kc
  have e1 : cs = cs.take T.sz ++ cs.drop T.sz := (List.take_append_drop _ _).symm
  have e2 := cut2 (cs := cs.drop T.sz) (a := U.sz) (b := V.sz) (by simp; omega)
  exact ⟨(a, b, c), ⟨_, _, e1, ka, _, _, e2, kb, kc⟩, sa, sb, sc⟩⟩
theorem Opens.st4 {T : Rep α} {U : Rep β} {V : Rep γ} {X : Rep δ} {S : α → Prop} {S' : β → Prop} {S'' : γ → Prop} {S3 : δ → Prop} {t : Nat} {f0 f1 f2 f3 : Field} (ht : P.underlying t = some (.struct #[f0, f1, f2, f3])) (o0 : Opens P T f0.type S) (o1 : Opens P U f1.type S') (o2 : Opens P V f2.type S'') (o3 : Opens P X f3.type S3)
    (h0 : f0.offset = 0) (h1 : f1.offset = T.sz) (h2 : f2.offset = T.sz + U.sz) (h3 : f3.offset = T.sz + (U.sz + V.sz)) (hc : P.cellsOf t = T.sz + (U.sz + (V.sz + X.sz))) :
    Opens P (T.pair (U.pair (V.pair X))) t (fun p => S p.1 ∧ S' p.2.1 ∧ S'' p.2.2.1 ∧ S3 p.2.2.2) := ⟨hc, fun fuel cs x h => by
  obtain ⟨y0, y1, y2, y3, n, _, hl, g0, g1, g2, g3⟩ := Go.Joins.trod_struct4 ht h
  obtain ⟨a, ka, sa⟩ := o0.2 _ _ _ g0
  obtain ⟨b, kb, sb⟩ := o1.2 _ _ _ g1
  obtain ⟨c, kc, sc⟩ := o2.2 _ _ _ g2
  obtain ⟨d, kd, sd⟩ := o3.2 _ _ _ g3
  rw [h0, o0.1, List.drop_zero] at ka
  rw [h1, o1.1] at kb
  rw [h2, o2.1, ← List.drop_drop] at kc
  rw [h3, o3.1, ← List.drop_drop, ← List.drop_drop] at kd
  have e1 : cs = cs.take T.sz ++ cs.drop T.sz := (List.take_append_drop _ _).symm
  have e2 : cs.drop T.sz = (cs.drop T.sz).take U.sz ++ (cs.drop T.sz).drop U.sz := (List.take_append_drop _ _).symm
  have e3 := cut2 (cs := (cs.drop T.sz).drop U.sz) (a := V.sz) (b := X.sz) (by simp; omega)
  exact ⟨(a, b, c, d), ⟨_, _, e1, ka, _, _, e2, kb, _, _, e3, kc, kd⟩, sa, sb, sc, sd⟩⟩
/-- Told otherwise. -/
theorem Opens.mk {T : Rep α} {U : Rep β} {S : α → Prop} {t : Nat} (o : Opens P T t S) (f : α → β) (hsz : T.sz = U.sz) (hk : ∀ {H : PHeap} {a cs}, T.K H a cs → U.K H (f a) cs) {S' : β → Prop} (hs : ∀ a, S a → S' (f a)) : Opens P U t S' :=
  ⟨o.1.trans hsz, fun fuel cs x h => let ⟨a, k, s⟩ := o.2 fuel cs x h; ⟨f a, hk k, hs a s⟩⟩
theorem Opens.get {T : Rep α} {S : α → Prop} {t : Nat} (o : Opens P T t S) {H : Type} {enc : TypeId × Value → H} {W : World} {base : Nat} {held : Bool} {v : Value} {d : DataW H} {ps : List MemPlace} (h : DataW.Trod enc P W base (fun _ => true) held t v d ps) : ∃ a, T.K (wh W) a v.cells.toList ∧ S a :=
  let ⟨fuel, hf⟩ := h
  o.2 fuel _ _ hf
theorem agg_of {cs : Array Value} {l : List Value} (h : (Value.agg cs).cells.toList = l) : Value.agg cs = .agg l.toArray := by
  have : cs.toList = l := h
  rw [← this]
/-- A word that came in. -/
theorem word_of {a : Int} (h : (Lit.int .u64 a).wf = true) : a = ((BitVec.ofInt 64 a).toNat : Int) := by
  simp [Lit.wf, IntKind.min, IntKind.max, IntKind.signed, IntKind.bits] at h
  rw [BitVec.toNat_ofInt]
  omega
end
end Go.Bw
