/- A law's start: what came in is read, and behind the call it reads as it did. Conditions: none. -/
import Derived.Test.YtbkooifhcekpmaaGreatBwHole
import Derived.Deep.Matrix
import Derived.Below
import Derived.Carry
import Derived.ChangeOld
set_option linter.unusedVariables false
set_option linter.unusedSimpArgs false
set_option linter.unusedSectionVars false
namespace Go.Bw
open Go Go.RowKit Go.ChangeShapes Go.WideShapes Go.Deep

/-- How many numbers there are in all. -/
def tot (G : List (List Int)) : Int := ((G.map List.length).sum : Nat)
theorem tot_nil : tot [] = 0 := rfl
theorem tot_cons (r : List Int) (G : List (List Int)) : tot (r :: G) = r.length + tot G := by unfold tot; simp
theorem tot_nonneg (G : List (List Int)) : 0 ≤ tot G := by unfold tot; omega
theorem tot_app (A B : List (List Int)) : tot (A ++ B) = tot A + tot B := by unfold tot; simp
/-- The shape of what lists read as. -/
def DSh {H : Type} (d : DataW H) (xs : List Int) : Prop := (d = .nil ∧ xs = []) ∨ ∃ es sp, d = .slice es sp ∧ es.length = xs.length
def EachSh {H : Type} : List (DataW H) → List (List Int) → Prop
  | [], [] => True
  | d :: ds, x :: xs => DSh d x ∧ EachSh ds xs
  | _, _ => False
def DSh2 {H : Type} (d : DataW H) (xss : List (List Int)) : Prop := (d = .nil ∧ xss = []) ∨ ∃ es sp, d = .slice es sp ∧ EachSh es xss
theorem eachSh_map {H : Type} {f : Nat → DataW H} {g : Nat → List Int} (h : ∀ r, DSh (f r) (g r) ∨ True) : ∀ {l : List Nat}, (∀ r ∈ l, DSh (f r) (g r)) → EachSh (l.map f) (l.map g)
  | [], _ => trivial
  | r :: l, hl => ⟨hl r (by simp), eachSh_map h fun q hq => hl q (by simp [hq])⟩
/-- The whole of a world, to be read. -/
def Res.of (W : World) : Res := ⟨wh W, W.os, W.tape, W.output, W.drawn⟩
theorem sat_of (W : World) : sat (Res.of W) [] W := ⟨⟨Sub.refl _, rfl, rfl, rfl, Nat.le_refl _⟩, fun _ => none, trivial, (fun _ _ _ e => by cases e), (fun _ _ e => by cases e)⟩
theorem below_of {W w : World} {l : List HProp} (h : sat (Res.of W) l w) : Below W.heap.size W w := by
  obtain ⟨⟨s, h1, h2, h3⟩, _⟩ := h
  have hb : ∀ k, k < W.heap.size → w.heap[k]? = W.heap[k]? := fun k hk => by
    have e : W.heap[k]? = some W.heap[k] := by simp [hk]
    rw [e]
    exact s k _ e
  refine ⟨h1, h2, h3, ?_, hb⟩
  by_cases h0 : W.heap.size = 0
  · omega
  · have := hb (W.heap.size - 1) (by omega)
    have e : W.heap[W.heap.size - 1]? = some W.heap[W.heap.size - 1] := by simp [show W.heap.size - 1 < W.heap.size from by omega]
    rw [e] at this
    have := (Array.getElem?_eq_some_iff.1 this).1
    omega
theorem rdA_of {W : World} {a : Addr} {cs : List Value} (h : ∀ j u, cs[j]? = some u → W.cell? (a.add j) = some u) : RdA (wh W) a cs := fun j u hu => by
  have := h j u hu
  unfold World.cell? at this
  split at this
  · rename_i c e fr he
    split at this
    · cases this
    · rename_i hs
      refine ⟨c, e, fr, he, ?_, this⟩
      cases hsp : (a.add j).spot with
      | none => rfl
      | some x => rw [hsp] at hs; exact absurd rfl hs
  · cases this
section
variable {H : Type} {enc : TypeId × Value → H} {P : Program} {W : World} {base : Nat} {held : Bool}
theorem open_i {t e : TypeId} {k : IntKind} {v : Value} {d : DataW H} {ps : List MemPlace} (ht : P.underlying t = some (.slice e)) (he : P.underlying e = some (.int k)) (ce : P.cellsOf e = 1) (hv : ∃ a len cap, v = .slice a len cap)
    (h : DataW.Trod enc P W base (fun _ => true) held t v d ps) : ∃ (A : Option Addr) (c : Nat) (xs : List Int), v = .slice A xs.length c ∧ xs.length ≤ c ∧ c ≤ maxLen ∧ RdS (Fl.int k).rep (wh W) A xs ∧ (∀ x ∈ xs, (Lit.int k x).wf = true) ∧ DSh d xs := by
  obtain ⟨fuel, hf⟩ := h
  obtain ⟨a, len, cap, rfl⟩ := hv
  rcases open_ints ht he ce hf with ⟨hcs, hd⟩ | ⟨x, l, c, zs, hcs, _, hl, hm, hz, hd, hcell, hwz⟩
  · simp [Value.cells] at hcs
    obtain ⟨rfl, rfl, rfl⟩ := hcs
    exact ⟨none, 0, [], rfl, Nat.le_refl _, Nat.zero_le _, RdS.nil _ _ _, by simp, .inl ⟨(Prod.mk.inj hd).1, rfl⟩⟩
  · simp [Value.cells] at hcs
    obtain ⟨rfl, rfl, rfl⟩ := hcs
    simp only [if_true] at hz
    have hlen : (zs.take len).length = len := by simp; omega
    refine ⟨some x, cap, zs.take len, by rw [hlen], by omega, hm, fun i y hy => ?_, fun y hy => hwz y (List.mem_of_mem_take hy), .inr ⟨_, _, (Prod.mk.inj hd).1, by simp [lits]⟩⟩
    refine ⟨x, _, rfl, rfl, rdA_of fun j u hu => ?_⟩
    have hi : i < len := by have := (List.getElem?_eq_some_iff.1 hy).1; omega
    cases j with
    | succ j => simp [Fl.int] at hu
    | zero =>
      simp [Fl.int] at hu
      subst hu
      have := hcell i (by omega)
      rw [List.getElem?_take, if_pos hi] at hy
      rw [List.getD_eq_getElem?_getD, hy] at this
      have e : (Fl.int k).rep.sz = 1 := rfl
      rw [e, Nat.mul_one, addr_add_add, Nat.add_zero]
      exact this
theorem open_ii {t e q : TypeId} {k : IntKind} {v : Value} {d : DataW H} {ps : List MemPlace} (ht : P.underlying t = some (.slice e)) (he : P.underlying e = some (.slice q)) (hq : P.underlying q = some (.int k)) (ce : P.cellsOf e = 1) (cq : P.cellsOf q = 1) (hv : ∃ a len cap, v = .slice a len cap)
    (h : DataW.Trod enc P W base (fun _ => true) held t v d ps) : ∃ (A : Option Addr) (c : Nat) (xss : List (List Int)), v = .slice A xss.length c ∧ xss.length ≤ c ∧ c ≤ maxLen ∧ RdS ((Fl.int k).rep).slice (wh W) A xss ∧ (∀ xs ∈ xss, xs.length ≤ maxLen) ∧ (∀ xs ∈ xss, ∀ x ∈ xs, (Lit.int k x).wf = true) ∧ DSh2 d xss := by
  obtain ⟨fuel, hf⟩ := h
  obtain ⟨a0, len0, cap0, rfl⟩ := hv
  rcases open_int_rows ht he hq ce cq hf with ⟨hcs, hd⟩ | ⟨a, len, cap, A, L, C, Z, hcs, _, hl, hm, hd, hrows⟩
  · simp [Value.cells] at hcs
    obtain ⟨rfl, rfl, rfl⟩ := hcs
    exact ⟨none, 0, [], rfl, Nat.le_refl _, Nat.zero_le _, RdS.nil _ _ _, by simp, by simp, .inl ⟨(Prod.mk.inj hd).1, rfl⟩⟩
  · simp [Value.cells] at hcs
    obtain ⟨rfl, rfl, rfl⟩ := hcs
    have hll : ∀ r, r < cap0 → ((Z r).take (L r)).length = L r := fun r hr => by
      obtain ⟨_, r1, _, r3, _⟩ := hrows r hr
      simp; omega
    refine ⟨some a, cap0, (List.range len0).map fun r => (Z r).take (L r), by simp, by simpa using hl, hm, fun i y hy => ?_, fun xs hx => ?_, fun xs hx x hxs => ?_, .inr ⟨_, _, (Prod.mk.inj hd).1, eachSh_map (fun _ => .inr trivial) fun r hr => ?_⟩⟩
    · have hi : i < len0 := by simpa using (List.getElem?_eq_some_iff.1 hy).1
      rw [List.getElem?_map, List.getElem?_range hi] at hy
      obtain rfl := Option.some.inj hy
      obtain ⟨r0, r1, r2, r3, r4, r5, r6⟩ := hrows i (by omega)
      refine ⟨a, [.slice (A i) (L i) (C i)], rfl, ⟨A i, C i, by rw [hll i (by omega)], by rw [hll i (by omega)]; exact r1, fun j x hx => ?_⟩, rdA_of fun j u hu => ?_⟩
      · have hj : j < L i := by have := (List.getElem?_eq_some_iff.1 hx).1; rw [hll i (by omega)] at this; exact this
        cases hA : A i with
        | none => rw [r5 hA] at r1; omega
        | some g =>
          obtain ⟨_, hc⟩ := r6 g hA
          refine ⟨g, _, rfl, rfl, rdA_of fun m u hu => ?_⟩
          cases m with
          | succ m => simp [Fl.int] at hu
          | zero =>
            simp [Fl.int] at hu
            subst hu
            have := hc j (by omega)
            rw [List.getElem?_take, if_pos hj] at hx
            rw [List.getD_eq_getElem?_getD, hx] at this
            have e : (Fl.int k).rep.sz = 1 := rfl
            rw [e, Nat.mul_one, addr_add_add, Nat.add_zero]
            exact this
      · cases j with
        | succ j => simp at hu
        | zero =>
          simp at hu
          subst hu
          have e : ((Fl.int k).rep).slice.sz = 1 := rfl
          rw [e, Nat.mul_one, addr_add_add, Nat.add_zero]
          exact r0
    · simp at hx
      obtain ⟨r, hr, rfl⟩ := hx
      obtain ⟨_, r1, r2, _⟩ := hrows r (by omega)
      rw [hll r (by omega)]
      omega
    · simp at hx
      obtain ⟨r, hr, rfl⟩ := hx
      obtain ⟨_, _, _, _, r4, _⟩ := hrows r (by omega)
      exact r4 x (List.mem_of_mem_take hxs)
    · have hr' : r < len0 := by simpa using hr
      obtain ⟨_, r1, _, r3, _, r5, _⟩ := hrows r (by omega)
      cases hA : A r with
      | none =>
        have := r5 hA
        exact .inl ⟨rfl, List.eq_nil_of_length_eq_zero (by simp; omega)⟩
      | some g => exact .inr ⟨_, _, rfl, by simp [lits]⟩
end
end Go.Bw
