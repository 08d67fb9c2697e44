/- What the library's sorts do to a row of the call's own. Conditions: none. -/
import Derived.Test.YtbkooifhcekpmaaGreatBwHole
import Derived.Sort.OwnSortedInts
set_option linter.unusedVariables false
set_option linter.unusedSimpArgs false
set_option linter.unusedSectionVars false
namespace Go.Bw
open Go Go.RowKit Go.Sort

section
variable {α : Type} [Inhabited α] {enc : α → Value} {w : World} {g n c e : Nat} {os : Array Obj} {cur : Array Value} {xs ys : List α}
theorem holds_block (hb : w.heap[g]? = some (.cells cur e (0, 0))) (ht : cur.toList.take xs.length = xs.map enc) : Holds enc w g 0 xs.toArray := by
  intro j hj
  have hj' : j < xs.length := by simpa using hj
  refine ⟨?_, by simp [World.frozen?, hb]⟩
  have h1 : (cur.toList.take xs.length)[j]? = (xs.map enc)[j]? := by rw [ht]
  rw [List.getElem?_take_of_lt hj'] at h1
  simp only [World.cell?, hb, Nat.zero_add]
  simp only [Option.isSome_none, Bool.false_eq_true, if_false]
  rw [← Array.getElem?_toList, h1]
  simp [hj']
theorem heap_sorted {fr : Nat × Nat} (d : Array α) (hb : w.heap[g]? = some (.cells cur e fr)) :
    (grow (putRow enc (Sort.ahead w n) g 0 d) os).heap[g]? = some (.cells (putCells enc 0 d cur) e fr) := by
  have hg : g < w.heap.size := (Array.getElem?_eq_some_iff.1 hb).1
  rw [heap_grow_old _ _ (by simpa using hg)]
  simp [putRow, mapBlock, Sort.ahead, Array.getElem?_modify, hb, onCells]
theorem grownBy_sorted (d : Array α) : w.grownBy (grow (putRow enc (Sort.ahead w n) g 0 d) os) (some g) := by
  refine ⟨rfl, rfl, rfl, by simp, fun k hk hne => ?_⟩
  rw [heap_grow_old _ _ (by simpa using hk)]
  have : g ≠ k := fun e => hne (by rw [e])
  simp [putRow, mapBlock, Sort.ahead, Array.getElem?_modify, this]
theorem take_putCells (cur : Array Value) (ts : List α) (h : ts.length ≤ cur.size) : (putCells enc 0 ts.toArray cur).toList.take ts.length = ts.map enc := by
  apply List.ext_getElem?
  intro j
  by_cases hj : j < ts.length
  · rw [List.getElem?_take_of_lt hj, Array.getElem?_toList]
    simp [putCells, hj, show j < cur.size by omega]
  · rw [List.getElem?_take_eq_none (by omega), List.getElem?_eq_none (by simp; omega)]
theorem sat.sorted {R : Res} {l : List HProp} (hs : sat R (own e 1 (some ⟨g, 0, none⟩) xs.length c (xs.map enc) :: l) w) (hl : ys.length = xs.length) :
    sat R (own e 1 (some ⟨g, 0, none⟩) xs.length c (ys.map enc) :: l) (grow (putRow enc (Sort.ahead w n) g 0 ys.toArray) os) := by
  obtain ⟨h, o, s⟩ := hs.head
  rcases o.2 with ⟨h0, _⟩ | ⟨g', cur, h1, hg, h3, h4, h5, h6⟩
  · cases h0
  · cases h1
    have hgw : w.heap[g]? = some (.cells cur e) := s g _ hg
    obtain ⟨A', c', hv, hs'⟩ := hs.grown (v' := .slice (some ⟨g, 0, none⟩) xs.length c) (m' := xs.length) (ys := ys.map enc) (grownBy_sorted (enc := enc) (n := n) (os := os) ys.toArray) (Nat.le_add_right _ _)
      ⟨by simp [hl], .inr ⟨g, c, _, rfl, Nat.zero_le _, heap_sorted (enc := enc) _ hgw, h3, h4, by simp [putCells, h5], by
        rw [Nat.mul_one, ← hl]
        exact take_putCells cur ys (by rw [Nat.mul_one] at h5; omega)⟩⟩ (.inl rfl)
    cases hv
    exact hs'
end
end Go.Bw
