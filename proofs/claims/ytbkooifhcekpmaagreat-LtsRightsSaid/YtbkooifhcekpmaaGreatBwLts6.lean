/- The reference's lists of names, and its states of a proposition. Conditions: none. -/
import Derived.Test.YtbkooifhcekpmaaGreatBwLts5
set_option linter.unusedVariables false
set_option linter.unusedSimpArgs false
set_option linter.unusedSectionVars false
namespace Go.Bw
open Go Go.RowKit

theorem less_cb : ∀ (x y : Bs), Op.bytesLess x y = true ↔ BLt x y
  | [], [] => by simp [Op.bytesLess, BLt, Lib.compareBytes]
  | [], _ :: _ => by simp [Op.bytesLess, BLt, Lib.compareBytes]
  | _ :: _, [] => by simp [Op.bytesLess, BLt, Lib.compareBytes]
  | a :: x, b :: y => by
    have ih := less_cb x y
    unfold BLt at ih
    unfold Op.bytesLess BLt Lib.compareBytes
    by_cases h1 : a < b
    · simp [h1]
    · by_cases h2 : b < a
      · have : a ≠ b := fun h => by subst h; exact UInt8.lt_irrefl a h2
        simp [h1, h2, this]
      · have : a = b := UInt8.le_antisymm (UInt8.not_lt.1 h2) (UInt8.not_lt.1 h1)
        subst this
        simp [h1, ih]
theorem bslt_iff {x y : Bs} : bslt x y = true ↔ BLt x y := by
  unfold bslt slt
  rw [bytes_toList, bytes_toList]
  exact less_cb x y
theorem refNames_iff (a : List Bs) (ha : (a.length : Int) ≤ 9223372036854775807) : ∃ b, bailiffref03_names.f a = some b ∧ (b = true ↔ (∀ s ∈ a, NameS s) ∧ Rise BLt a) := by
  refine jn_up_true ?_
  have key := up_iff (body := fun t_ : Int => bailiffref03_names.l0b a t_) (N := a.length) (p := fun i => NameS (gt a i) ∧ (0 < i → BLt (gt a (i - 1)) (gt a i))) (bad := false) ha 0 (by decide) (fun i h0 h1 => by
    simp only [bailiffref03_names.l0b]
    obtain ⟨b, hb, hb2⟩ := refName_iff (gt a i)
    rw [if_pos h1, if_pos ⟨h0, h1⟩, hb]
    simp only [Option.bind_some]
    cases b with
    | false => right; exact ⟨fun h => (by have := hb2.2 h.1; cases this), by simp [jn, upL]⟩
    | true =>
      have hn := hb2.1 rfl
      by_cases hi : 0 < i
      · rw [wrap64 (x := i - 1) (by omega) (by omega)]
        have hc : (0 : Int) ≤ i - 1 ∧ i - 1 < (a.length : Int) := by omega
        have hi' : 1 ≤ i := by omega
        by_cases hl : BLt (gt a (i - 1)) (gt a i)
        · left; refine ⟨⟨hn, fun _ => hl⟩, ?_⟩
          simp [hi, hi', hc, bslt_iff.2 hl, jn, nx]
        · right; refine ⟨fun h => hl (h.2 hi), ?_⟩
          have : bslt (gt a (i - 1)) (gt a i) = false := Bool.eq_false_iff.2 fun h => hl (bslt_iff.1 h)
          simp [hi, hi', hc, this, jn, upL]
      · left; refine ⟨⟨hn, fun h => absurd h hi⟩, ?_⟩
        simp [hi, jn, nx]) (fun i h => by simp only [bailiffref03_names.l0b]; rw [if_neg h]; rfl)
  have hiff : (∀ i : Int, 0 ≤ i → i < (a.length : Int) → NameS (gt a i) ∧ (0 < i → BLt (gt a (i - 1)) (gt a i))) ↔ (∀ s ∈ a, NameS s) ∧ Rise BLt a := by
    constructor
    · intro h
      refine ⟨fun s hs => ?_, fun i i0 i1 => (h i (by omega) i1).2 (by omega)⟩
      obtain ⟨k, hk, rfl⟩ := List.getElem_of_mem hs
      have := (h k (by omega) (by omega)).1
      rwa [gt_of_get (List.getElem?_eq_getElem hk)] at this
    · rintro ⟨h1, h2⟩ i i0 i1
      exact ⟨h1 _ (gt_mem i0 i1), fun h => h2 i (by omega) i1⟩
  rcases key with ⟨h, q⟩ | ⟨h, i, i0, i1, i2⟩
  · exact .inl ⟨h, hiff.1 q⟩
  · exact .inr ⟨h, fun hr => i2 (hiff.2 hr i i0 i1)⟩
theorem names_iff (a : List Bs) (ha : (a.length : Int) ≤ 9223372036854775807) : ∃ b, slices_ContainsFunc_string_string.f a = some b ∧ (b = true ↔ ¬ ∀ s ∈ a, NameS s) := by
  -- all that is passed is a name
  have key := iter_meas (body := fun t_ : Int => slices_IndexFunc_string_string.l0b a t_) (fun i => 0 ≤ i ∧ ∀ j : Int, 0 ≤ j → j < i → j < (a.length : Int) → NameS (gt a j)) (fun r => r = .inl () ∧ (∀ s ∈ a, NameS s) ∨ ∃ k : Int, 0 ≤ k ∧ r = .inr k ∧ ¬ ∀ s ∈ a, NameS s) (fun i => ((a.length : Int) - i).toNat) (fun i ⟨h0, h2⟩ => by
    unfold slices_IndexFunc_string_string.l0b lts_Right_3.f
    by_cases h1 : i < (a.length : Int)
    · obtain ⟨c, hc, hc2⟩ := name_iff (gt a i)
      rw [if_pos h1, if_pos ⟨h0, h1⟩, hc]
      simp only [Option.bind_some]
      cases c with
      | true =>
        right
        rw [wrap64 (x := i + 1) (by omega) (by omega)]
        refine ⟨_, rfl, ⟨by omega, fun j j0 j1 j2 => ?_⟩, by omega⟩
        by_cases hj : j = i
        · subst hj; exact hc2.1 rfl
        · exact h2 j j0 (by omega) j2
      | false => left; exact ⟨_, rfl, .inr ⟨i, h0, rfl, fun h => by have := hc2.2 (h _ (gt_mem h0 h1)); cases this⟩⟩
    · left; rw [if_neg h1]
      refine ⟨_, rfl, .inl ⟨rfl, fun s hs => ?_⟩⟩
      obtain ⟨k, hk, rfl⟩ := List.getElem_of_mem hs
      have := h2 k (by omega) (by omega) (by omega)
      rwa [gt_of_get (List.getElem?_eq_getElem hk)] at this) 0 ⟨Int.le_refl _, fun j j0 j1 => by omega⟩
  obtain ⟨r', hr', hq'⟩ := key
  unfold slices_ContainsFunc_string_string.f slices_IndexFunc_string_string.f slices_IndexFunc_string_string.l0
  rw [hr']
  rcases hq' with ⟨rfl, h⟩ | ⟨k, k0, rfl, h⟩
  · exact ⟨false, rfl, by simp; exact h⟩
  · exact ⟨true, by simp [jn, k0], by simp only [true_iff]; exact h⟩
/-- The states of a proposition. -/
def StatesS (n : Int) (a : List Int) : Prop := (∀ s ∈ a, 0 ≤ s ∧ s < n) ∧ Rise (· < ·) a
theorem inS_iff (a : List Int) (n : Int) (x : List Bs) (y : List api_Edge) (z : List api_Prop) (ha : (a.length : Int) ≤ 9223372036854775807) : ∃ b, slices_ContainsFunc_int_int.f a n x y z = some b ∧ (b = true ↔ ¬ ∀ s ∈ a, 0 ≤ s ∧ s < n) := by
  have key := iter_meas (body := fun t_ : Int => slices_IndexFunc_int_int.l0b a n x y z t_) (fun i => 0 ≤ i ∧ ∀ j : Int, 0 ≤ j → j < i → j < (a.length : Int) → 0 ≤ gt a j ∧ gt a j < n) (fun r => r = .inl () ∧ (∀ s ∈ a, 0 ≤ s ∧ s < n) ∨ ∃ k : Int, 0 ≤ k ∧ r = .inr k ∧ ¬ ∀ s ∈ a, 0 ≤ s ∧ s < n) (fun i => ((a.length : Int) - i).toNat) (fun i ⟨h0, h2⟩ => by
    unfold slices_IndexFunc_int_int.l0b lts_Right_2.f
    by_cases h1 : i < (a.length : Int)
    · rw [if_pos h1, if_pos ⟨h0, h1⟩, in_run]
      simp only [Option.bind_some]
      by_cases hp : 0 ≤ gt a i ∧ gt a i < n
      · right
        rw [wrap64 (x := i + 1) (by omega) (by omega)]
        refine ⟨i + 1, by simp [hp, nx], ⟨by omega, fun j j0 j1 j2 => ?_⟩, by omega⟩
        by_cases hj : j = i
        · subst hj; exact hp
        · exact h2 j j0 (by omega) j2
      · left; exact ⟨.inr i, by simp [hp, upL], .inr ⟨i, h0, rfl, fun h => hp (h _ (gt_mem h0 h1))⟩⟩
    · left; rw [if_neg h1]
      refine ⟨_, rfl, .inl ⟨rfl, fun s hs => ?_⟩⟩
      obtain ⟨k, hk, rfl⟩ := List.getElem_of_mem hs
      have := h2 k (by omega) (by omega) (by omega)
      rwa [gt_of_get (List.getElem?_eq_getElem hk)] at this) 0 ⟨Int.le_refl _, fun j j0 j1 => by omega⟩
  obtain ⟨r', hr', hq'⟩ := key
  unfold slices_ContainsFunc_int_int.f slices_IndexFunc_int_int.f slices_IndexFunc_int_int.l0
  rw [hr']
  rcases hq' with ⟨rfl, h⟩ | ⟨k, k0, rfl, h⟩
  · exact ⟨false, rfl, by simp; exact h⟩
  · exact ⟨true, by simp [jn, k0], by simp only [true_iff]; exact h⟩
end Go.Bw
