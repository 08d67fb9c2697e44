/- slices.Sort at a row of integers of the call's own. Conditions: none. -/
import Derived.Test.YtbkooifhcekpmaaGreatBwSorts
import Derived.Shelf.SortG.Plain
import Derived.Shelf.SortG.SortNone
set_option linter.unusedVariables false
set_option linter.unusedSimpArgs false
set_option linter.unusedSectionVars false
namespace Go.Bw
open Go Go.RowKit Go.Sort Go.Proofs Go.Shelf

theorem flat_int (k : IntKind) (xs : List Int) : xs.flatMap (Fl.int k).enc = xs.map (Value.int k) := by
  induction xs with
  | nil => rfl
  | cons x xs ih => rw [List.flatMap_cons, ih]; rfl
theorem row_int (k : IntKind) (e : Nat) (A : Option Addr) (n c : Nat) (xs : List Int) : row (Fl.int k) e A n c xs = own e 1 A n c (xs.map (Value.int k)) := by
  unfold row
  rw [flat_int]
  rfl
theorem sort_int_spec {P : Program} {ρ : Ren} (Ly : SlLaysN.n53 P ρ) (R : Res) (l : List HProp) {e n c : Nat} {A : Option Addr} {xs : List Int} (hb : xs.length < 4611686018427387904) :
    Spec P (ρ.f 53) [.slice A n c] R (row (Fl.int .i64) e A n c xs :: l) (fun v l' => v = .tuple #[] ∧ row (Fl.int .i64) e A n c (xs.mergeSort fun x y => decide (x ≤ y)) :: l = l') := fun w hs => by
  obtain ⟨h, o, s⟩ := hs.head
  have hn := row_len o
  subst hn
  rw [row_int] at o hs
  rcases o.2 with ⟨rfl, h0, rfl⟩ | ⟨g, cur, rfl, hg, h3, h4, h5, h6⟩
  · have hx : xs = [] := List.eq_nil_of_length_eq_zero h0
    subst hx
    refine (AnyG.slices_Sort_int_none Ly none 0 w).mono fun e w' ⟨he, hw⟩ => ⟨_, _, he, ⟨rfl, rfl⟩, ?_⟩
    subst hw
    rw [row_int]
    simpa using hs
  · have hgw : w.heap[g]? = some (.cells cur e) := s g _ hg
    have hH : Holds (Value.int .i64) w g 0 xs.toArray := holds_block hgw (by rw [Nat.mul_one] at h6; exact h6)
    refine (AnyG.slices_Sort_int Ly g 0 c xs w hH (Array.getElem?_eq_some_iff.1 hgw).1 hb).mono fun e' w' ⟨he, n, os, hw⟩ => ⟨_, _, he, ⟨rfl, rfl⟩, ?_⟩
    subst hw
    rw [row_int]
    exact sat.sorted hs (by simp)
end Go.Bw
