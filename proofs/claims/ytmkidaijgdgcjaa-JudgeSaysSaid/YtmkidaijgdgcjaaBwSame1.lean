/- SameInts: are two lists the same? Conditions: lengths that an int counts. -/
import Derived.Test.YtmkidaijgdgcjaaBwSame
import Derived.Test.YtmkidaijgdgcjaaBwLoop
set_option linter.unusedVariables false
set_option linter.unusedSimpArgs false
set_option linter.unusedSectionVars false
namespace Go.Bw
open Go Go.RowKit

theorem same_run {a b : List Int} (ha : (a.length : Int) ≤ 9223372036854775807) : bailiffref09_SameInts.f a b = some (decide (a = b)) := by
  unfold bailiffref09_SameInts.f
  by_cases hl : (a.length : Int) = (b.length : Int)
  · rw [if_pos hl]
    obtain ⟨r, hr, hq⟩ := iter_meas (body := fun t_ : Int => bailiffref09_SameInts.l0b a b t_)
      (fun s => 0 ≤ s ∧ s ≤ (a.length : Int) ∧ a.take s.toNat = b.take s.toNat)
      (fun r => (r = .inl () ∧ a = b) ∨ (r = .inr false ∧ a ≠ b)) (fun s => (a.length - s).toNat)
      (fun i ⟨h0, h1, h2⟩ => by
        unfold bailiffref09_SameInts.l0b
        by_cases hi : i < (a.length : Int)
        · rw [if_pos hi, if_pos ⟨h0, hi⟩, if_pos ⟨h0, by omega⟩]
          by_cases he : gt a i = gt b i
          · right
            rw [if_pos he, wrap64 (x := i + 1) (by omega) (by omega)]
            refine ⟨_, rfl, ⟨by omega, by omega, ?_⟩, by omega⟩
            rw [show (i + 1).toNat = i.toNat + 1 from by omega, List.take_add_one, List.take_add_one, h2, gt_some h0 hi, gt_some h0 (by omega), he]
          · left
            rw [if_neg he]
            exact ⟨_, rfl, .inr ⟨rfl, fun e => he (by rw [e])⟩⟩
        · left
          rw [if_neg hi]
          refine ⟨_, rfl, .inl ⟨rfl, ?_⟩⟩
          rwa [List.take_of_length_le (by omega), List.take_of_length_le (by omega)] at h2) 0 ⟨Int.le_refl _, by omega, by simp⟩
    have hr' : bailiffref09_SameInts.l0 a b 0 = some r := hr
    rw [hr']
    rcases hq with ⟨rfl, h⟩ | ⟨rfl, h⟩
    · rw [jn_inl, decide_eq_true h]
    · rw [decide_eq_false h]; rfl
  · rw [if_neg hl, decide_eq_false (fun e => hl (by rw [e]))]
end Go.Bw
