/- game.Right and the judge's look at how the regions part the positions, as their models tell them. Conditions: none. -/
import Derived.Test.YtmkidaijgdgcjaaBwJud
import Derived.Test.YtmkidaijgdgcjaaBwCycl
set_option linter.unusedVariables false
set_option linter.unusedSimpArgs false
set_option linter.unusedSectionVars false
namespace Go.Bw
open Go Go.RowKit Tj

/-- A position's moves rise, among n positions. -/
def Rise (n : Int) (l : List Int) : Prop := ∀ k : Int, 0 ≤ k → k < (l.length : Int) → (0 ≤ gt l k ∧ gt l k < n) ∧ (0 < k → gt l (k - 1) < gt l k)
/-- A game that may be. -/
structure GR (O P : List Int) (M : List (List Int)) : Prop where
  lo : O.length = M.length
  lp : P.length = M.length
  pos : 1 ≤ M.length
  many : M.length ≤ 200
  own : ∀ i, Tj.Ok M i → 0 ≤ gt O i ∧ gt O i ≤ 1
  prio : ∀ i, Tj.Ok M i → 0 ≤ gt P i ∧ gt P i ≤ 7
  ne : ∀ i, Tj.Ok M i → gt M i ≠ []
  rise : ∀ i, Tj.Ok M i → Rise M.length (gt M i)
theorem two_jn {ρ : Type} {p q : Prop} [Decidable p] [Decidable q] (f : Bool → Option ρ) : jn (if p then some (.inl true) else some (.inl (decide q))) f = f (decide (p ∨ q)) := by
  by_cases h : p
  · rw [if_pos h, jn_inl, decide_eq_true (Or.inl h)]
  · rw [if_neg h, jn_inl]
    congr 1
    exact decide_eq_decide.2 ⟨.inr, fun h' => h'.resolve_left h⟩
section
variable {O P : List Int} {M : List (List Int)}
theorem right1_run {i : Int} (hN : (M.length : Int) ≤ 9223372036854775807) (hl : ((gt M i).length : Int) ≤ 9223372036854775807) :
    ∃ r, game_Right.l1 M i 0 = some r ∧ ((r = .inl () ∧ Rise M.length (gt M i)) ∨ (r = .inr (.inr (.inr (16, i))) ∧ ¬ Rise M.length (gt M i))) := by
  refine iter_meas (body := fun t_ : Int => game_Right.l1b M i t_)
    (fun k => 0 ≤ k ∧ k ≤ ((gt M i).length : Int) ∧ ∀ j : Int, 0 ≤ j → j < k → (0 ≤ gt (gt M i) j ∧ gt (gt M i) j < (M.length : Int)) ∧ (0 < j → gt (gt M i) (j - 1) < gt (gt M i) j))
    (fun r => (r = .inl () ∧ Rise M.length (gt M i)) ∨ (r = .inr (.inr (.inr (16, i))) ∧ ¬ Rise M.length (gt M i))) (fun k => ((gt M i).length - k).toNat)
    (fun k ⟨h0, h1, h2⟩ => ?_) 0 ⟨Int.le_refl _, by omega, fun j a b => by omega⟩
  unfold game_Right.l1b
  by_cases hk : k < ((gt M i).length : Int)
  · rw [if_pos hk, if_pos ⟨h0, hk⟩, two_jn]
    by_cases hb : gt (gt M i) k < 0 ∨ (M.length : Int) ≤ gt (gt M i) k
    · left
      rw [if_pos (decide_eq_true hb), jn_inl, if_pos rfl]
      exact ⟨_, rfl, .inr ⟨rfl, fun h => by have := (h k h0 hk).1; omega⟩⟩
    · rw [if_neg (by simp; omega)]
      by_cases hp : 0 < k
      · rw [if_pos hp, wrap64 (x := k - 1) (by omega) (by omega), if_pos ⟨by omega, by omega⟩, jn_inl, jn_inl]
        dsimp only
        by_cases hle : gt (gt M i) k ≤ gt (gt M i) (k - 1)
        · left
          rw [if_pos (decide_eq_true hle)]
          exact ⟨_, rfl, .inr ⟨rfl, fun h => by have := (h k h0 hk).2 hp; omega⟩⟩
        · right
          rw [if_neg (by simp; omega), wrap64 (x := k + 1) (by omega) (by omega)]
          refine ⟨_, rfl, ⟨by omega, by omega, fun j a b => ?_⟩, by omega⟩
          by_cases hj : j = k
          · subst hj; exact ⟨by omega, fun _ => by omega⟩
          · exact h2 j a (by omega)
      · right
        rw [if_neg hp, jn_inl, jn_inl, if_neg (by simp), wrap64 (x := k + 1) (by omega) (by omega)]
        refine ⟨_, rfl, ⟨by omega, by omega, fun j a b => ?_⟩, by omega⟩
        have hj : j = k := by omega
        subst hj
        exact ⟨by omega, fun h => by omega⟩
  · left
    rw [if_neg hk]
    exact ⟨_, rfl, .inl ⟨rfl, fun j a b => h2 j a (by omega)⟩⟩
/-- What is asked of one position. -/
def GR1 (O P : List Int) (M : List (List Int)) (i : Int) : Prop := (0 ≤ gt O i ∧ gt O i ≤ 1) ∧ (0 ≤ gt P i ∧ gt P i ≤ 7) ∧ gt M i ≠ [] ∧ Rise M.length (gt M i)
theorem right0_run (lo : O.length = M.length) (lp : P.length = M.length) (hN : (M.length : Int) ≤ 200) (hrow : ∀ r ∈ M, (r.length : Int) ≤ 9223372036854775807) :
    ∃ r, game_Right.l0 O P M 0 = some r ∧ ((r = .inl () ∧ ∀ i, Tj.Ok M i → GR1 O P M i) ∨ (∃ e at_, r = .inr (e, at_) ∧ e ≠ 0 ∧ ∃ i, Tj.Ok M i ∧ ¬ GR1 O P M i)) := by
  refine iter_meas (body := fun t_ : Int => game_Right.l0b O P M t_)
    (fun k => 0 ≤ k ∧ k ≤ (M.length : Int) ∧ ∀ j : Int, 0 ≤ j → j < k → GR1 O P M j)
    (fun r => (r = .inl () ∧ ∀ i, Tj.Ok M i → GR1 O P M i) ∨ (∃ e at_, r = .inr (e, at_) ∧ e ≠ 0 ∧ ∃ i, Tj.Ok M i ∧ ¬ GR1 O P M i)) (fun k => (M.length - k).toNat)
    (fun k ⟨h0, h1, h2⟩ => ?_) 0 ⟨Int.le_refl _, by omega, fun j a b => by omega⟩
  unfold game_Right.l0b
  by_cases hk : k < (M.length : Int)
  · have hok : Tj.Ok M k := ⟨h0, hk⟩
    rw [if_pos hk, if_pos ⟨h0, hk⟩, if_pos ⟨h0, by omega⟩, two_jn]
    by_cases hb : gt O k < 0 ∨ 1 < gt O k
    · left
      rw [if_pos (decide_eq_true hb)]
      exact ⟨_, rfl, .inr ⟨_, _, rfl, by decide, k, hok, fun h => by have := h.1; omega⟩⟩
    · rw [if_neg (by simp; omega), if_pos ⟨h0, by omega⟩, two_jn]
      by_cases hc : gt P k < 0 ∨ 7 < gt P k
      · left
        rw [if_pos (decide_eq_true hc)]
        exact ⟨_, rfl, .inr ⟨_, _, rfl, by decide, k, hok, fun h => by have := h.2.1; omega⟩⟩
      · rw [if_neg (by simp; omega)]
        by_cases hd : ((gt M k).length : Int) = 0
        · left
          rw [if_pos hd]
          exact ⟨_, rfl, .inr ⟨_, _, rfl, by decide, k, hok, fun h => h.2.2.1 (List.eq_nil_of_length_eq_zero (by omega))⟩⟩
        · rw [if_neg hd]
          obtain ⟨r, hr, ⟨rfl, hq⟩ | ⟨rfl, hq⟩⟩ := right1_run (M := M) (i := k) (by omega) (hrow _ (gt_mem h0 hk))
          · right
            rw [hr, jn_inl, wrap64 (x := k + 1) (by omega) (by omega)]
            refine ⟨_, rfl, ⟨by omega, by omega, fun j a b => ?_⟩, by omega⟩
            by_cases hj : j = k
            · subst hj; exact ⟨by omega, by omega, fun e => hd (by rw [e]; rfl), hq⟩
            · exact h2 j a (by omega)
          · left
            rw [hr]
            exact ⟨_, rfl, .inr ⟨_, _, rfl, by decide, k, hok, fun h => hq h.2.2.2⟩⟩
  · left
    rw [if_neg hk]
    exact ⟨_, rfl, .inl ⟨rfl, fun i hi => h2 i hi.1 (by have := hi.2; omega)⟩⟩
theorem right_run (hN : (M.length : Int) ≤ 9223372036854775807) (hrow : ∀ r ∈ M, (r.length : Int) ≤ 9223372036854775807) : ∃ e at_, game_Right.f O P M = some (e, at_) ∧ (e = 0 ↔ GR O P M) := by
  unfold game_Right.f
  have hj : ∀ {ρ : Type} (f : Bool → Option ρ), jn (if (O.length : Int) = (M.length : Int) then some (.inl (!(decide ((P.length : Int) = (M.length : Int))))) else some (.inl true)) f = f (decide (¬ (O.length = M.length ∧ P.length = M.length))) := fun f => by
    by_cases h : (O.length : Int) = (M.length : Int)
    · rw [if_pos h, jn_inl]
      congr 1
      by_cases h' : (P.length : Int) = (M.length : Int)
      · rw [decide_eq_true h', decide_eq_false (by intro hh; exact hh ⟨by omega, by omega⟩)]; rfl
      · rw [decide_eq_false h', decide_eq_true (by intro hh; exact h' (by omega))]; rfl
    · rw [if_neg h, jn_inl, decide_eq_true (by intro hh; exact h (by omega))]
  rw [hj]
  by_cases hl : O.length = M.length ∧ P.length = M.length
  · rw [if_neg (by simp [hl]), two_jn]
    by_cases hm : (M.length : Int) < 1 ∨ 200 < (M.length : Int)
    · rw [if_pos (decide_eq_true hm)]
      exact ⟨_, _, rfl, fun h => absurd h (by decide), fun h => by have := h.pos; have := h.many; omega⟩
    · rw [if_neg (by simp; omega)]
      obtain ⟨r, hr, ⟨rfl, hq⟩ | ⟨e, at_, rfl, he, i, hi, hq⟩⟩ := right0_run hl.1 hl.2 (by omega) hrow
      · rw [hr, jn_inl]
        exact ⟨_, _, rfl, fun _ => ⟨hl.1, hl.2, by omega, by omega, fun i hi => (hq i hi).1, fun i hi => (hq i hi).2.1, fun i hi => (hq i hi).2.2.1, fun i hi => (hq i hi).2.2.2⟩, fun _ => rfl⟩
      · rw [hr]
        exact ⟨e, at_, rfl, fun h => absurd h he, fun h => absurd ⟨h.own i hi, h.prio i hi, h.ne i hi, h.rise i hi⟩ hq⟩
  · rw [if_pos (decide_eq_true hl)]
    exact ⟨_, _, rfl, fun h => absurd h (by decide), fun h => absurd ⟨h.lo, h.lp⟩ hl⟩
end
end Go.Bw
