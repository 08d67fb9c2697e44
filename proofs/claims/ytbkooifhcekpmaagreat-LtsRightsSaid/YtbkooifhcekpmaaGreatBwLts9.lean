/- When a system may be: the reference says what lts.Right says. Conditions: none. -/
import Derived.Test.YtbkooifhcekpmaaGreatBwLts8
set_option linter.unusedVariables false
set_option linter.unusedSimpArgs false
set_option linter.unusedSectionVars false
namespace Go.Bw
open Go Go.RowKit

theorem refStates (n : Int) (z : List api_Prop) (i : Int) (ha : ((gt z i).States.length : Int) ≤ 9223372036854775807) :
    (bailiffref03_Right.l1 n z i 0 = some (.inl ()) ∧ StatesS n (gt z i).States) ∨ (bailiffref03_Right.l1 n z i 0 = some (.inr (.inr (.inr false))) ∧ ¬ StatesS n (gt z i).States) := by
  generalize hS : (gt z i).States = S at ha
  have key := up_iff (body := fun t_ : Int => bailiffref03_Right.l1b n z i t_) (N := S.length) (p := fun k => (0 ≤ gt S k ∧ gt S k < n) ∧ (0 < k → gt S (k - 1) < gt S k)) (bad := .inr (.inr false)) ha 0 (by decide) (fun k k0 k1 => by
    simp only [bailiffref03_Right.l1b, hS]
    rw [if_pos k1, if_pos ⟨k0, k1⟩]
    by_cases e1 : gt S k < 0
    · right; exact ⟨fun h => by have := h.1.1; omega, by simp [e1, jn, upL]⟩
    by_cases e2 : n ≤ gt S k
    · right; exact ⟨fun h => by have := h.1.2; omega, by simp [e1, e2, jn, upL]⟩
    by_cases hk : 0 < k
    · have hc : (0 : Int) ≤ k - 1 ∧ k - 1 < (S.length : Int) := by omega
      have hk' : 1 ≤ k := by omega
      rw [wrap64 (x := k - 1) (by omega) (by omega)]
      by_cases hl : gt S k ≤ gt S (k - 1)
      · right; exact ⟨fun h => by have := h.2 hk; omega, by simp [e1, e2, hk, hk', hc, hl, jn, upL]⟩
      · left; exact ⟨⟨by omega, fun _ => by omega⟩, by simp [e1, e2, hk, hk', hc, hl, jn, nx]⟩
    · left; exact ⟨⟨by omega, fun h => absurd h hk⟩, by simp [e1, e2, hk, jn, nx]⟩) (fun k h => by simp only [bailiffref03_Right.l1b, hS]; rw [if_neg h]; rfl)
  have hiff : (∀ k : Int, 0 ≤ k → k < (S.length : Int) → (0 ≤ gt S k ∧ gt S k < n) ∧ (0 < k → gt S (k - 1) < gt S k)) ↔ StatesS n S := by
    constructor
    · intro h
      refine ⟨fun s hs => ?_, fun k k0 k1 => (h k (by omega) k1).2 (by omega)⟩
      obtain ⟨q, hq, rfl⟩ := List.getElem_of_mem hs
      have := (h q (by omega) (by omega)).1
      rwa [gt_of_get (List.getElem?_eq_getElem hq)] at this
    · rintro ⟨h1, h2⟩ k k0 k1
      exact ⟨h1 _ (gt_mem k0 k1), fun h => h2 k (by omega) k1⟩
  rcases key with ⟨h, q⟩ | ⟨h, k, k0, k1, k2⟩
  · exact .inl ⟨h, hiff.1 q⟩
  · exact .inr ⟨h, fun hr => k2 (hiff.2 hr k k0 k1)⟩
theorem refProps (n : Int) (z : List api_Prop) (hz : z.length ≤ 8) (hs : ∀ p ∈ z, (p.States.length : Int) ≤ 9223372036854775807) :
    (bailiffref03_Right.l0 n z [] 0 = some (.inl (z.map (·.Name))) ∧ ∀ p ∈ z, StatesS n p.States) ∨ (bailiffref03_Right.l0 n z [] 0 = some (.inr false) ∧ ¬ ∀ p ∈ z, StatesS n p.States) := by
  obtain ⟨r, hr, hq⟩ := iter_meas (body := fun t_ : List Bs × Int => bailiffref03_Right.l0b n z t_.1 t_.2) (fun s => 0 ≤ s.2 ∧ s.2 ≤ (z.length : Int) ∧ s.1 = (z.take s.2.toNat).map (·.Name) ∧ ∀ p ∈ z.take s.2.toNat, StatesS n p.States)
    (fun r => (r = .inl (z.map (·.Name)) ∧ ∀ p ∈ z, StatesS n p.States) ∨ (r = .inr false ∧ ¬ ∀ p ∈ z, StatesS n p.States)) (fun s => ((z.length : Int) - s.2).toNat) (fun ⟨l, i⟩ ⟨h0, h1, h2, h3⟩ => by
      dsimp only at h0 h1 h2 h3 ⊢
      subst h2
      unfold bailiffref03_Right.l0b
      by_cases hi : i < (z.length : Int)
      · have hm := gt_mem h0 hi
        rw [if_pos hi, if_pos ⟨h0, hi⟩, if_pos (by simp; omega)]
        have ht : z.take (i + 1).toNat = z.take i.toNat ++ [gt z i] := by
          rw [show (i + 1).toNat = i.toNat + 1 from by omega, List.take_add_one, gt_some h0 hi]; rfl
        rcases refStates n z i (hs _ hm) with ⟨hl, hp⟩ | ⟨hl, hp⟩
        · right
          rw [hl, jn_inl, wrap64 (x := i + 1) (by omega) (by omega)]
          refine ⟨_, rfl, ⟨by dsimp only; omega, by dsimp only; omega, by dsimp only; rw [ht]; simp, fun p hp' => ?_⟩, by dsimp only; omega⟩
          dsimp only at hp'
          rw [ht] at hp'
          rcases List.mem_append.1 hp' with h | h
          · exact h3 p h
          · simp at h; subst h; exact hp
        · left
          rw [hl]
          exact ⟨.inr false, rfl, .inr ⟨rfl, fun h => hp (h _ hm)⟩⟩
      · left
        rw [if_neg hi]
        rw [List.take_of_length_le (by omega)] at h3 ⊢
        exact ⟨_, rfl, .inl ⟨rfl, h3⟩⟩) ([], 0) ⟨Int.le_refl _, by dsimp only; omega, by simp, by simp⟩
  rcases hq with ⟨rfl, h⟩ | ⟨rfl, h⟩
  · exact .inl ⟨hr, h⟩
  · exact .inr ⟨hr, h⟩
theorem gt_map_name (z : List api_Prop) {i : Int} (h0 : 0 ≤ i) (h1 : i < (z.length : Int)) : gt (z.map (·.Name)) i = (gt z i).Name := by
  unfold gt
  rw [List.getD_eq_getElem?_getD, List.getD_eq_getElem?_getD, List.getElem?_map, List.getElem?_eq_getElem (by omega)]
  rfl
theorem rise_map (z : List api_Prop) : Rise BLt (z.map (·.Name)) ↔ Rise (fun p q => BLt p.Name q.Name) z := by
  unfold Rise
  rw [List.length_map]
  constructor
  · intro h i i0 i1
    have := h i i0 i1
    rwa [gt_map_name z (by omega) (by omega), gt_map_name z (by omega) i1] at this
  · intro h i i0 i1
    rw [gt_map_name z (by omega) (by omega), gt_map_name z (by omega) i1]
    exact h i i0 i1
theorem refRight_iff (n : Int) (x : List Bs) (y : List api_Edge) (z : List api_Prop) (hs : ∀ p ∈ z, (p.States.length : Int) ≤ 9223372036854775807) : ∃ b, bailiffref03_Right.f n x y z = some b ∧ (b = true ↔ RightS n x y z) := by
  have no : ∀ {P : Prop}, ¬ P → (false = true ↔ P) := fun h => ⟨fun e => (by cases e), fun p => absurd p h⟩
  unfold bailiffref03_Right.f
  by_cases h1 : n < 1
  · exact ⟨false, by simp [h1, jn], no fun h => by have := h.n0; omega⟩
  by_cases h2 : 24 < n
  · exact ⟨false, by simp [h1, h2, jn], no fun h => by have := h.n1; omega⟩
  by_cases h3 : 8 < (x.length : Int)
  · exact ⟨false, by simp [h1, h2, h3, jn], no fun h => by have := h.nx; omega⟩
  by_cases h4 : 8 < (z.length : Int)
  · exact ⟨false, by simp [h1, h2, h3, h4, jn], no fun h => by have := h.nz; omega⟩
  by_cases h5 : 200 < (y.length : Int)
  · exact ⟨false, by simp [h1, h2, h3, h4, h5, jn], no fun h => by have := h.ny; omega⟩
  simp only [if_neg h1, jn_inl, decide_eq_false h2, decide_eq_false h3, decide_eq_false h4, decide_eq_false h5, Bool.false_eq_true, if_false]
  rcases refProps n z (by omega) hs with ⟨hp, hpp⟩ | ⟨hp, hpp⟩
  · rw [hp, jn_inl]
    obtain ⟨b1, hb1, c1⟩ := refNames_iff (z.map (·.Name)) (by simp; omega)
    obtain ⟨b2, hb2, c2⟩ := refNames_iff x (by omega)
    obtain ⟨b3, hb3, c3⟩ := refEdges_iff n x y z (by omega) (by omega)
    have c1' : b1 = true ↔ (∀ p ∈ z, NameS p.Name) ∧ Rise (fun p q => BLt p.Name q.Name) z := by
      rw [c1, rise_map]
      simp
    simp only [hb1, hb2, hb3, Option.bind_some]
    cases b1 with
    | false => exact ⟨false, by simp [jn], no fun h => by have := c1'.2 ⟨fun p hp => (h.pr p hp).1, h.rz⟩; cases this⟩
    | true =>
      cases b2 with
      | false => exact ⟨false, by simp [jn], no fun h => by have := c2.2 ⟨h.nm, h.rx⟩; cases this⟩
      | true =>
        cases b3 with
        | false => exact ⟨false, by simp [jn], no fun h => by have := c3.2 ⟨h.ed, h.re, h.us⟩; cases this⟩
        | true =>
          refine ⟨true, by simp [jn], ?_⟩
          simp only [true_iff]
          have k1 := c1'.1 rfl
          have k2 := c2.1 rfl
          have k3 := c3.1 rfl
          exact ⟨by omega, by omega, by omega, by omega, by omega, k3.1, fun p hp => ⟨k1.1 p hp, hpp p hp⟩, k2.1, k3.2.2, k3.2.1, k2.2, k1.2⟩
  · rw [hp]
    exact ⟨false, rfl, no fun h => hpp fun p hp => (h.pr p hp).2⟩
/-- Both say the same. -/
theorem right_eq (n : Int) (x : List Bs) (y : List api_Edge) (z : List api_Prop) (hs : ∀ p ∈ z, (p.States.length : Int) ≤ 9223372036854775807) : ∃ b, lts_Right.f n x y z = some b ∧ bailiffref03_Right.f n x y z = some b := by
  obtain ⟨b, hb, h1⟩ := right_iff n x y z hs
  obtain ⟨c, hc, h2⟩ := refRight_iff n x y z hs
  have : b = c := by rw [Bool.eq_iff_iff, h1, h2]
  subst this
  exact ⟨b, hb, hc⟩
end Go.Bw
