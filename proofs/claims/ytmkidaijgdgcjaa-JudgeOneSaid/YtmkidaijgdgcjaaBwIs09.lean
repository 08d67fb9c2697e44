/- ref09.Is: is a game right, as its model tells it. Conditions: none. -/
import Derived.Test.YtmkidaijgdgcjaaBwJudge1
import Derived.Test.YtmkidaijgdgcjaaBwJSayA
set_option linter.unusedVariables false
set_option linter.unusedSimpArgs false
set_option linter.unusedSectionVars false
namespace Go.Bw
open Go Go.RowKit Tj

section
variable {O P : List Int} {M : List (List Int)}
theorem r09_right1 {i : Int} (lo : O.length = M.length) (hl : ((gt M i).length : Int) ≤ 9223372036854775807) :
    ∃ r, bailiffref09_Right.l1 O M i (-1) 0 = some r ∧ ((r = .inl () ∧ Rise M.length (gt M i)) ∨ (r = .inr (.inr (.inr (16, i))) ∧ ¬ Rise M.length (gt M i))) := by
  refine iter_meas (body := fun t_ : Int × Int => bailiffref09_Right.l1b O M i t_.1 t_.2)
    (fun s => 0 ≤ s.2 ∧ s.2 ≤ ((gt M i).length : Int) ∧ s.1 = (if s.2 = 0 then -1 else gt (gt M i) (s.2 - 1)) ∧ ∀ j : Int, 0 ≤ j → j < s.2 → (0 ≤ gt (gt M i) j ∧ gt (gt M i) j < (M.length : Int)) ∧ (0 < j → gt (gt M i) (j - 1) < gt (gt M i) j))
    (fun r => (r = .inl () ∧ Rise M.length (gt M i)) ∨ (r = .inr (.inr (.inr (16, i))) ∧ ¬ Rise M.length (gt M i))) (fun s => ((gt M i).length - s.2).toNat)
    (fun ⟨last, k⟩ ⟨h0, h1, h2, h3⟩ => ?_) (-1, 0) ⟨Int.le_refl _, by dsimp only; omega, rfl, fun j a b => by dsimp only at b; omega⟩
  dsimp only at h0 h1 h2 h3 ⊢
  unfold bailiffref09_Right.l1b
  by_cases hk : k < ((gt M i).length : Int)
  · rw [if_pos hk, if_pos ⟨h0, hk⟩, two_jn]
    by_cases hb : gt (gt M i) k ≤ last ∨ (O.length : Int) ≤ gt (gt M i) k
    · left
      rw [if_pos (decide_eq_true hb)]
      refine ⟨_, rfl, .inr ⟨rfl, fun h => ?_⟩⟩
      obtain ⟨b0, b1⟩ := h k h0 hk
      by_cases hz : k = 0
      · rw [if_pos hz] at h2; omega
      · rw [if_neg hz] at h2; have := b1 (by omega); omega
    · right
      rw [if_neg (by simp; omega), wrap64 (x := k + 1) (by omega) (by omega)]
      refine ⟨_, rfl, ⟨by dsimp only; omega, by dsimp only; omega, ?_, fun j a b => ?_⟩, by dsimp only; omega⟩
      · dsimp only
        rw [if_neg (by omega), show k + 1 - 1 = k from by omega]
      · dsimp only at b
        by_cases hj : j = k
        · subst hj
          by_cases hz : j = 0
          · rw [if_pos hz] at h2; exact ⟨by omega, fun h => by omega⟩
          · rw [if_neg hz] at h2
            have := (h3 (j - 1) (by omega) (by omega)).1
            exact ⟨by omega, fun h => by omega⟩
        · exact h3 j a (by omega)
  · left
    rw [if_neg hk]
    exact ⟨_, rfl, .inl ⟨rfl, fun j a b => h3 j a (by omega)⟩⟩
theorem r09_right0 (lo : O.length = M.length) (lp : P.length = M.length) (hN : (M.length : Int) ≤ 200) (hrow : ∀ r ∈ M, (r.length : Int) ≤ 9223372036854775807) :
    ∃ r, bailiffref09_Right.l0 O P M 0 = some r ∧ ((r = .inl () ∧ ∀ i, Tj.Ok M i → GR1 O P M i) ∨ (∃ e at_, r = .inr (e, at_) ∧ e ≠ 0 ∧ ∃ i, Tj.Ok M i ∧ ¬ GR1 O P M i)) := by
  refine iter_meas (body := fun t_ : Int => bailiffref09_Right.l0b O P M t_)
    (fun k => 0 ≤ k ∧ k ≤ (M.length : Int) ∧ ∀ j : Int, 0 ≤ j → j < k → GR1 O P M j)
    (fun r => (r = .inl () ∧ ∀ i, Tj.Ok M i → GR1 O P M i) ∨ (∃ e at_, r = .inr (e, at_) ∧ e ≠ 0 ∧ ∃ i, Tj.Ok M i ∧ ¬ GR1 O P M i)) (fun k => (M.length - k).toNat)
    (fun k ⟨h0, h1, h2⟩ => ?_) 0 ⟨Int.le_refl _, by omega, fun j a b => by omega⟩
  unfold bailiffref09_Right.l0b
  by_cases hk : k < (M.length : Int)
  · have hok : Tj.Ok M k := ⟨h0, hk⟩
    have hown : ∀ {ρ : Type} (f : Bool → Option ρ), jn (if gt O k = 0 then some (.inl false) else some (.inl (!(decide (gt O k = 1))))) f = f (decide (¬ (gt O k = 0 ∨ gt O k = 1))) := fun f => by
      by_cases h : gt O k = 0
      · rw [if_pos h, jn_inl, decide_eq_false (by simp [h])]
      · rw [if_neg h, jn_inl]
        congr 1
        by_cases h' : gt O k = 1 <;> simp [h, h']
    rw [if_pos (by omega), if_pos ⟨h0, by omega⟩, hown]
    by_cases hb : gt O k = 0 ∨ gt O k = 1
    · rw [if_neg (by simp [hb]), if_pos ⟨h0, by omega⟩, two_jn]
      by_cases hc : gt P k < 0 ∨ 7 < gt P k
      · left
        rw [if_pos (decide_eq_true hc)]
        exact ⟨_, rfl, .inr ⟨_, _, rfl, by decide, k, hok, fun h => by have := h.2.1; omega⟩⟩
      · rw [if_neg (by simp; omega), if_pos ⟨h0, hk⟩]
        by_cases hd : ((gt M k).length : Int) = 0
        · left
          rw [if_pos hd]
          exact ⟨_, rfl, .inr ⟨_, _, rfl, by decide, k, hok, fun h => h.2.2.1 (List.eq_nil_of_length_eq_zero (by omega))⟩⟩
        · rw [if_neg hd]
          obtain ⟨r, hr, ⟨rfl, hq⟩ | ⟨rfl, hq⟩⟩ := r09_right1 (O := O) (M := M) (i := k) lo (hrow _ (gt_mem h0 hk))
          · right
            rw [hr, jn_inl, wrap64 (x := k + 1) (by omega) (by omega)]
            refine ⟨_, rfl, ⟨by omega, by omega, fun j a b => ?_⟩, by omega⟩
            by_cases hj : j = k
            · subst hj; exact ⟨by omega, by omega, fun e => hd (by rw [e]; rfl), hq⟩
            · exact h2 j a (by omega)
          · left
            rw [hr]
            exact ⟨_, rfl, .inr ⟨_, _, rfl, by decide, k, hok, fun h => hq h.2.2.2⟩⟩
    · left
      rw [if_pos (decide_eq_true hb)]
      exact ⟨_, rfl, .inr ⟨_, _, rfl, by decide, k, hok, fun h => by have := h.1; omega⟩⟩
  · left
    rw [if_neg (by omega)]
    exact ⟨_, rfl, .inl ⟨rfl, fun i hi => h2 i hi.1 (by have := hi.2; omega)⟩⟩
theorem is_run (hrow : ∀ r ∈ M, (r.length : Int) ≤ 9223372036854775807) : ∃ b, bailiffref09_Is.f O P M = some b ∧ (b = true ↔ GR O P M) := by
  unfold bailiffref09_Is.f bailiffref09_Right.f
  have hj : ∀ {ρ : Type} (f : Bool → Option ρ), jn (if (P.length : Int) = (O.length : Int) then some (.inl (!(decide ((M.length : Int) = (O.length : Int))))) else some (.inl true)) f = f (decide (¬ (O.length = M.length ∧ P.length = M.length))) := fun f => by
    by_cases h : (P.length : Int) = (O.length : Int)
    · rw [if_pos h, jn_inl]
      congr 1
      by_cases h' : (M.length : Int) = (O.length : Int)
      · rw [decide_eq_true h', decide_eq_false (by intro hh; exact hh ⟨by omega, by omega⟩)]; rfl
      · rw [decide_eq_false h', decide_eq_true (by intro hh; exact h' (by omega))]; rfl
    · rw [if_neg h, jn_inl, decide_eq_true (by intro hh; exact h (by omega))]
  rw [hj]
  by_cases hl : O.length = M.length ∧ P.length = M.length
  · rw [if_neg (by simp [hl]), two_jn]
    by_cases hm : (O.length : Int) = 0 ∨ 200 < (O.length : Int)
    · rw [if_pos (decide_eq_true hm)]
      exact ⟨_, rfl, fun h => by simp at h, fun h => by have := h.pos; have := h.many; omega⟩
    · rw [if_neg (by rw [decide_eq_true_iff]; exact hm)]
      obtain ⟨r, hr, ⟨rfl, hq⟩ | ⟨e, at_, rfl, he, i, hi, hq⟩⟩ := r09_right0 hl.1 hl.2 (by omega) hrow
      · rw [hr, jn_inl]
        exact ⟨_, rfl, fun _ => ⟨hl.1, hl.2, by omega, by omega, fun i hi => (hq i hi).1, fun i hi => (hq i hi).2.1, fun i hi => (hq i hi).2.2.1, fun i hi => (hq i hi).2.2.2⟩, fun _ => rfl⟩
      · rw [hr]
        exact ⟨_, rfl, fun h => absurd (of_decide_eq_true h) he, fun h => absurd ⟨h.own i hi, h.prio i hi, h.ne i hi, h.rise i hi⟩ hq⟩
  · rw [if_pos (decide_eq_true hl)]
    exact ⟨_, rfl, fun h => by simp at h, fun h => absurd ⟨h.lo, h.lp⟩ hl⟩
end
end Go.Bw
