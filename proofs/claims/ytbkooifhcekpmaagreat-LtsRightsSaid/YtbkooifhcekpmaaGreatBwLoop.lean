/- Loops of the models: what they come to. Conditions: none. -/
import Derived.Test.YtbkooifhcekpmaaGreatBwHole
set_option linter.unusedVariables false
set_option linter.unusedSimpArgs false
set_option linter.unusedSectionVars false
namespace Go.Bw
open Go Go.RowKit

theorem iter_meas {σ ρ : Type} {body : σ → Option (σ ⊕ ρ)} (I : σ → Prop) (Q : ρ → Prop) (μ : σ → Nat) (h : ∀ s, I s → (∃ r, body s = some (.inr r) ∧ Q r) ∨ ∃ s', body s = some (.inl s') ∧ I s' ∧ μ s' < μ s) :
    ∀ s, I s → ∃ r, iter body s = some r ∧ Q r := by
  have key : ∀ n s, μ s < n → I s → ∃ r, iter body s = some r ∧ Q r := by
    intro n
    induction n with
    | zero => intro s hn; omega
    | succ n ih =>
      intro s hn hI
      rw [iter_eq]
      rcases h s hI with ⟨r, hr, hq⟩ | ⟨s', hs, hI', hlt⟩
      · exact ⟨r, by rw [hr]; rfl, hq⟩
      · obtain ⟨r, hr, hq⟩ := ih s' (by omega) hI'
        exact ⟨r, by rw [hs]; exact hr, hq⟩
  exact fun s hI => key _ s (Nat.lt_succ_self _) hI
theorem wrap64 {x : Int} (h0 : -9223372036854775808 ≤ x) (h1 : x ≤ 9223372036854775807) : IntKind.i64.wrap x = x := by
  simp [IntKind.wrap, IntKind.bits, IntKind.signed]
  omega
section
variable {α : Type} [Inhabited α]
theorem st_len (xs : List α) (i : Int) (x : α) : (st xs i x).length = xs.length := by simp [st]
theorem gt_st {xs : List α} {i j : Int} {x : α} (hi : 0 ≤ i) (hi' : i < (xs.length : Int)) (hj : 0 ≤ j) : gt (st xs i x) j = if j = i then x else gt xs j := by
  unfold gt st
  rw [List.getD_eq_getElem?_getD, List.getD_eq_getElem?_getD, List.getElem?_set]
  by_cases h : j = i
  · subst h
    have : j.toNat < xs.length := by omega
    simp [this]
  · have : ¬ i.toNat = j.toNat := by omega
    simp [this, h]
theorem gt_mem {xs : List α} {i : Int} (h0 : 0 ≤ i) (h1 : i < (xs.length : Int)) : gt xs i ∈ xs := List.mem_of_getElem? (gt_some h0 h1)
theorem gt_app_left {xs ys : List α} {i : Int} (h0 : 0 ≤ i) (h1 : i < (xs.length : Int)) : gt (xs ++ ys) i = gt xs i := by
  unfold gt
  rw [List.getD_eq_getElem?_getD, List.getD_eq_getElem?_getD, List.getElem?_append_left (by omega)]
theorem gt_last {xs : List α} {x : α} : gt (xs ++ [x]) (xs.length : Int) = x := by
  unfold gt
  simp
theorem gt_of_get {xs : List α} {i : Nat} {x : α} (h : xs[i]? = some x) : gt xs (i : Int) = x := by
  unfold gt
  simp [List.getD_eq_getElem?_getD, h]
end
theorem count_set {xs : List Int} {i : Int} {c : Int} (h0 : 0 ≤ i) (h1 : i < (xs.length : Int)) (hz : gt xs i = 0) (hc : c ≠ 0) : (st xs i c).count 0 + 1 = xs.count 0 := by
  have hi : i.toNat < xs.length := by omega
  have hg := gt_some h0 h1
  rw [hz] at hg
  have he : xs = xs.take i.toNat ++ 0 :: xs.drop (i.toNat + 1) := by
    have : xs[i.toNat] = 0 := by rw [List.getElem?_eq_getElem hi] at hg; exact Option.some.inj hg
    rw [← this, ← List.drop_eq_getElem_cons hi, List.take_append_drop]
  unfold st
  rw [List.set_eq_take_append_cons_drop, if_pos hi]
  conv => rhs; rw [he]
  simp [List.count_append, List.count_cons, hc]
  omega
/-- A rising list of numbers among 1..c is no longer than c. -/
theorem rising_len : ∀ {xs : List Int} {a c : Int}, xs.Pairwise (· < ·) → (∀ x ∈ xs, a < x ∧ x ≤ c) → a ≤ c → (xs.length : Int) ≤ c - a
  | [], a, c, _, _, h0 => by simp; omega
  | x :: xs, a, c, h, h1, h0 => by
    rw [List.pairwise_cons] at h
    have hx := h1 x (by simp)
    have := rising_len (xs := xs) (a := x) (c := c) h.2 (fun y hy => ⟨h.1 y hy, (h1 y (by simp [hy])).2⟩) hx.2
    simp
    omega
end Go.Bw
