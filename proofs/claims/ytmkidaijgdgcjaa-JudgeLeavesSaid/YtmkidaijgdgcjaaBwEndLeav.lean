/- JudgeLeaves' model comes to true, whatever comes in: written by mkleav.py. Conditions: none. -/
import Derived.Test.YtmkidaijgdgcjaaBwLeaves1
import Derived.Test.YtmkidaijgdgcjaaBwLeav
set_option linter.unusedVariables false
set_option linter.unusedSimpArgs false
set_option linter.unusedSectionVars false
namespace Go.Bw
open Go Go.RowKit Tj

theorem leaves_some {c : Cl} {a2 a3 : Int} (hrow : ∀ r ∈ c.M, (r.length : Int) ≤ 9223372036854775807) (hM : (c.M.length : Int) ≤ 9223372036854775807) (z0 : c.R0.length * 8 ≤ 140737488351232) (z1 : c.R1.length * 8 ≤ 140737488351232) (z2 : c.M0.length * 8 ≤ 140737488351232) (z3 : c.M1.length * 8 ≤ 140737488351232)
    (h2 : -9223372036854775808 ≤ a2 ∧ a2 ≤ 9223372036854775807) : bailifflaw16_JudgeLeaves.f c.O c.P c.M c.R0 c.R1 c.M0 c.M1 a2 a3 = some true := by
  have l0 : (c.R0.length : Int) ≤ 9223372036854775807 := by omega
  have l1 : (c.R1.length : Int) ≤ 9223372036854775807 := by omega
  obtain ⟨v, e, s⟩ := judge_run (c := c) hrow hM l0 l1
  unfold bailifflaw16_JudgeLeaves.f
  rw [shown16_run]
  simp only [Option.bind_some, lent_take]
  rw [e]
  simp only [Option.bind_some]
  rw [if_pos trivial, jn_inl]
  by_cases hv : v.1 = 0
  · have acc := s.acc.1 hv
    have hlo := acc.gr.lo
    have hpos : 0 < (c.O.length : Int) := by have := acc.gr.pos; omega
    rw [decide_eq_true hv, if_neg (by simp)]
    by_cases hneg : a2 < 0
    · rw [if_pos hneg, if_pos (by omega)]
      have hwv : IntKind.i64.wrap (0 - (IntKind.i64.wrap (a2 + 1))) = -(a2 + 1) := by
        rw [wrap64 (x := a2 + 1) (by omega) (by omega), wrap64 (by omega) (by omega)]; omega
      obtain ⟨w, hw⟩ : ∃ w, Int.tmod (IntKind.i64.wrap (0 - (IntKind.i64.wrap (a2 + 1)))) (c.O.length : Int) = w := ⟨_, rfl⟩
      have h0 : 0 ≤ w := by rw [← hw, hwv]; exact Int.tmod_nonneg _ (by omega)
      have h1 : w < (c.O.length : Int) := by rw [← hw]; exact Int.tmod_lt_of_pos _ hpos
      simp only [hw]
      rw [if_pos ⟨h0, h1⟩]
      have hown := acc.gr.own w ⟨h0, by omega⟩
      by_cases ho0 : gt c.O w = 0
      · have ho : gt c.O w = 0 := ho0
        rw [ho, if_pos (show (0 : Int) ≤ 0 ∧ (0 : Int) < 2 by decide), if_pos rfl, count_run l0]
        simp only [Option.bind_some]
        rw [jn_inl]
        by_cases hc : (c.R0.count w : Int) = 0
        · rw [decide_eq_true hc, if_pos rfl]
        · have hin : w ∈ c.R 0 := by
            unfold Cl.R
            rw [if_pos rfl]
            exact Classical.not_not.1 fun h => hc (cnt_zero.2 h)
          have hl := Acc_len acc (p := 0) (by decide) h0 h1 hin ho
          have hA : c.A 0 = c.M0 := by unfold Cl.A; rw [if_pos rfl]
          have hR : c.R 0 = c.R0 := by unfold Cl.R; rw [if_pos rfl]
          rw [hA] at hl
          have t : Turn c { c with M0 := st c.M0 w a3 } 0 w a3 := ⟨rfl, rfl, rfl, rfl, rfl, by unfold Cl.A; rw [if_pos rfl, if_pos rfl], fun q hq hne => by
            unfold Cl.A
            rcases hq with rfl | rfl
            · exact absurd rfl hne
            · rfl⟩
          obtain ⟨v', e', s'⟩ := judge_run (c := { c with M0 := st c.M0 w a3 }) hrow hM l0 l1
          dsimp only at e'
          obtain ⟨k1, k2, k3⟩ := leaves_core t acc (by decide) h0 h1 hin ho s'
          rw [hR] at k2 k3
          rw [decide_eq_false hc, if_neg (by simp), lent_run z0 z1 z2 z3]
          simp only [Option.bind_some]
          rw [if_pos (show (0 : Int) ≤ 0 ∧ (0 : Int) < 2 by decide), if_pos trivial, if_pos ⟨h0, hl⟩, jn_inl]
          dsimp only
          rw [e']
          simp only [Option.bind_some]
          rw [if_pos ⟨h0, by omega⟩, count_run (hrow _ (gt_mem h0 (by omega)))]
          simp only [Option.bind_some]
          by_cases hm : ((gt c.M w).count a3 : Int) = 0
          · rw [if_pos hm, k1 (cnt_zero.1 hm)]
            simp
          · have hm' : a3 ∈ gt c.M w := Classical.not_not.1 fun h => hm (cnt_zero.2 h)
            rw [if_neg hm, if_pos (show (0 : Int) ≤ 0 ∧ (0 : Int) < 2 by decide), if_pos trivial, count_run l0]
            simp only [Option.bind_some]
            rw [jn_inl]
            by_cases hr : (c.R0.count a3 : Int) = 0
            · rw [decide_eq_true hr, if_pos rfl, k2 hm' (cnt_zero.1 hr)]
              simp
            · rw [decide_eq_false hr, if_neg (by simp)]
              rcases k3 hm' (Classical.not_not.1 fun h => hr (cnt_zero.2 h)) with k | ⟨ka, kb⟩
              · rw [k]
                simp [jn_inl]
              · rw [if_neg (by simp [ka]), if_pos ka, jn_inl, jn_inl, kb]
                simp
      · have ho : gt c.O w = 1 := by omega
        rw [ho, if_pos (show (0 : Int) ≤ 1 ∧ (1 : Int) < 2 by decide), if_neg (show ¬ (1 : Int) = 0 by decide), count_run l1]
        simp only [Option.bind_some]
        rw [jn_inl]
        by_cases hc : (c.R1.count w : Int) = 0
        · rw [decide_eq_true hc, if_pos rfl]
        · have hin : w ∈ c.R 1 := by
            unfold Cl.R
            rw [if_neg (show ¬ (1 : Int) = 0 by decide)]
            exact Classical.not_not.1 fun h => hc (cnt_zero.2 h)
          have hl := Acc_len acc (p := 1) (by decide) h0 h1 hin ho
          have hA : c.A 1 = c.M1 := by unfold Cl.A; rw [if_neg (show ¬ (1 : Int) = 0 by decide)]
          have hR : c.R 1 = c.R1 := by unfold Cl.R; rw [if_neg (show ¬ (1 : Int) = 0 by decide)]
          rw [hA] at hl
          have t : Turn c { c with M1 := st c.M1 w a3 } 1 w a3 := ⟨rfl, rfl, rfl, rfl, rfl, by unfold Cl.A; rw [if_neg (show ¬ (1 : Int) = 0 by decide), if_neg (show ¬ (1 : Int) = 0 by decide)], fun q hq hne => by
            unfold Cl.A
            rcases hq with rfl | rfl
            · rfl
            · exact absurd rfl hne⟩
          obtain ⟨v', e', s'⟩ := judge_run (c := { c with M1 := st c.M1 w a3 }) hrow hM l0 l1
          dsimp only at e'
          obtain ⟨k1, k2, k3⟩ := leaves_core t acc (by decide) h0 h1 hin ho s'
          rw [hR] at k2 k3
          rw [decide_eq_false hc, if_neg (by simp), lent_run z0 z1 z2 z3]
          simp only [Option.bind_some]
          rw [if_pos (show (0 : Int) ≤ 1 ∧ (1 : Int) < 2 by decide), if_neg (show ¬ (1 : Int) = 0 by decide), if_pos ⟨h0, hl⟩, jn_inl]
          dsimp only
          rw [e']
          simp only [Option.bind_some]
          rw [if_pos ⟨h0, by omega⟩, count_run (hrow _ (gt_mem h0 (by omega)))]
          simp only [Option.bind_some]
          by_cases hm : ((gt c.M w).count a3 : Int) = 0
          · rw [if_pos hm, k1 (cnt_zero.1 hm)]
            simp
          · have hm' : a3 ∈ gt c.M w := Classical.not_not.1 fun h => hm (cnt_zero.2 h)
            rw [if_neg hm, if_pos (show (0 : Int) ≤ 1 ∧ (1 : Int) < 2 by decide), if_neg (show ¬ (1 : Int) = 0 by decide), count_run l1]
            simp only [Option.bind_some]
            rw [jn_inl]
            by_cases hr : (c.R1.count a3 : Int) = 0
            · rw [decide_eq_true hr, if_pos rfl, k2 hm' (cnt_zero.1 hr)]
              simp
            · rw [decide_eq_false hr, if_neg (by simp)]
              rcases k3 hm' (Classical.not_not.1 fun h => hr (cnt_zero.2 h)) with k | ⟨ka, kb⟩
              · rw [k]
                simp [jn_inl]
              · rw [if_neg (by simp [ka]), if_pos ka, jn_inl, jn_inl, kb]
                simp
    · rw [if_neg hneg, if_pos (by omega)]
      obtain ⟨w, hw⟩ : ∃ w, Int.tmod a2 (c.O.length : Int) = w := ⟨_, rfl⟩
      have h0 : 0 ≤ w := by rw [← hw]; exact Int.tmod_nonneg _ (by omega)
      have h1 : w < (c.O.length : Int) := by rw [← hw]; exact Int.tmod_lt_of_pos _ hpos
      simp only [hw]
      rw [if_pos ⟨h0, h1⟩]
      have hown := acc.gr.own w ⟨h0, by omega⟩
      by_cases ho0 : gt c.O w = 0
      · have ho : gt c.O w = 0 := ho0
        rw [ho, if_pos (show (0 : Int) ≤ 0 ∧ (0 : Int) < 2 by decide), if_pos rfl, count_run l0]
        simp only [Option.bind_some]
        rw [jn_inl]
        by_cases hc : (c.R0.count w : Int) = 0
        · rw [decide_eq_true hc, if_pos rfl]
        · have hin : w ∈ c.R 0 := by
            unfold Cl.R
            rw [if_pos rfl]
            exact Classical.not_not.1 fun h => hc (cnt_zero.2 h)
          have hl := Acc_len acc (p := 0) (by decide) h0 h1 hin ho
          have hA : c.A 0 = c.M0 := by unfold Cl.A; rw [if_pos rfl]
          have hR : c.R 0 = c.R0 := by unfold Cl.R; rw [if_pos rfl]
          rw [hA] at hl
          have t : Turn c { c with M0 := st c.M0 w a3 } 0 w a3 := ⟨rfl, rfl, rfl, rfl, rfl, by unfold Cl.A; rw [if_pos rfl, if_pos rfl], fun q hq hne => by
            unfold Cl.A
            rcases hq with rfl | rfl
            · exact absurd rfl hne
            · rfl⟩
          obtain ⟨v', e', s'⟩ := judge_run (c := { c with M0 := st c.M0 w a3 }) hrow hM l0 l1
          dsimp only at e'
          obtain ⟨k1, k2, k3⟩ := leaves_core t acc (by decide) h0 h1 hin ho s'
          rw [hR] at k2 k3
          rw [decide_eq_false hc, if_neg (by simp), lent_run z0 z1 z2 z3]
          simp only [Option.bind_some]
          rw [if_pos (show (0 : Int) ≤ 0 ∧ (0 : Int) < 2 by decide), if_pos trivial, if_pos ⟨h0, hl⟩, jn_inl]
          dsimp only
          rw [e']
          simp only [Option.bind_some]
          rw [if_pos ⟨h0, by omega⟩, count_run (hrow _ (gt_mem h0 (by omega)))]
          simp only [Option.bind_some]
          by_cases hm : ((gt c.M w).count a3 : Int) = 0
          · rw [if_pos hm, k1 (cnt_zero.1 hm)]
            simp
          · have hm' : a3 ∈ gt c.M w := Classical.not_not.1 fun h => hm (cnt_zero.2 h)
            rw [if_neg hm, if_pos (show (0 : Int) ≤ 0 ∧ (0 : Int) < 2 by decide), if_pos trivial, count_run l0]
            simp only [Option.bind_some]
            rw [jn_inl]
            by_cases hr : (c.R0.count a3 : Int) = 0
            · rw [decide_eq_true hr, if_pos rfl, k2 hm' (cnt_zero.1 hr)]
              simp
            · rw [decide_eq_false hr, if_neg (by simp)]
              rcases k3 hm' (Classical.not_not.1 fun h => hr (cnt_zero.2 h)) with k | ⟨ka, kb⟩
              · rw [k]
                simp [jn_inl]
              · rw [if_neg (by simp [ka]), if_pos ka, jn_inl, jn_inl, kb]
                simp
      · have ho : gt c.O w = 1 := by omega
        rw [ho, if_pos (show (0 : Int) ≤ 1 ∧ (1 : Int) < 2 by decide), if_neg (show ¬ (1 : Int) = 0 by decide), count_run l1]
        simp only [Option.bind_some]
        rw [jn_inl]
        by_cases hc : (c.R1.count w : Int) = 0
        · rw [decide_eq_true hc, if_pos rfl]
        · have hin : w ∈ c.R 1 := by
            unfold Cl.R
            rw [if_neg (show ¬ (1 : Int) = 0 by decide)]
            exact Classical.not_not.1 fun h => hc (cnt_zero.2 h)
          have hl := Acc_len acc (p := 1) (by decide) h0 h1 hin ho
          have hA : c.A 1 = c.M1 := by unfold Cl.A; rw [if_neg (show ¬ (1 : Int) = 0 by decide)]
          have hR : c.R 1 = c.R1 := by unfold Cl.R; rw [if_neg (show ¬ (1 : Int) = 0 by decide)]
          rw [hA] at hl
          have t : Turn c { c with M1 := st c.M1 w a3 } 1 w a3 := ⟨rfl, rfl, rfl, rfl, rfl, by unfold Cl.A; rw [if_neg (show ¬ (1 : Int) = 0 by decide), if_neg (show ¬ (1 : Int) = 0 by decide)], fun q hq hne => by
            unfold Cl.A
            rcases hq with rfl | rfl
            · rfl
            · exact absurd rfl hne⟩
          obtain ⟨v', e', s'⟩ := judge_run (c := { c with M1 := st c.M1 w a3 }) hrow hM l0 l1
          dsimp only at e'
          obtain ⟨k1, k2, k3⟩ := leaves_core t acc (by decide) h0 h1 hin ho s'
          rw [hR] at k2 k3
          rw [decide_eq_false hc, if_neg (by simp), lent_run z0 z1 z2 z3]
          simp only [Option.bind_some]
          rw [if_pos (show (0 : Int) ≤ 1 ∧ (1 : Int) < 2 by decide), if_neg (show ¬ (1 : Int) = 0 by decide), if_pos ⟨h0, hl⟩, jn_inl]
          dsimp only
          rw [e']
          simp only [Option.bind_some]
          rw [if_pos ⟨h0, by omega⟩, count_run (hrow _ (gt_mem h0 (by omega)))]
          simp only [Option.bind_some]
          by_cases hm : ((gt c.M w).count a3 : Int) = 0
          · rw [if_pos hm, k1 (cnt_zero.1 hm)]
            simp
          · have hm' : a3 ∈ gt c.M w := Classical.not_not.1 fun h => hm (cnt_zero.2 h)
            rw [if_neg hm, if_pos (show (0 : Int) ≤ 1 ∧ (1 : Int) < 2 by decide), if_neg (show ¬ (1 : Int) = 0 by decide), count_run l1]
            simp only [Option.bind_some]
            rw [jn_inl]
            by_cases hr : (c.R1.count a3 : Int) = 0
            · rw [decide_eq_true hr, if_pos rfl, k2 hm' (cnt_zero.1 hr)]
              simp
            · rw [decide_eq_false hr, if_neg (by simp)]
              rcases k3 hm' (Classical.not_not.1 fun h => hr (cnt_zero.2 h)) with k | ⟨ka, kb⟩
              · rw [k]
                simp [jn_inl]
              · rw [if_neg (by simp [ka]), if_pos ka, jn_inl, jn_inl, kb]
                simp
  · rw [decide_eq_false hv, if_pos (by simp)]
theorem bailifflaw16_JudgeLeaves_run {O P : List Int} {M : List (List Int)} {R0 R1 M0 M1 : List Int} {a2 a3 : Int} (_ : O.length ≤ maxLen) (_ : ∀ x ∈ O, (Lit.int .i64 x).wf = true) (_ : P.length ≤ maxLen) (_ : ∀ x ∈ P, (Lit.int .i64 x).wf = true)
    (hM : M.length ≤ maxLen) (hrow : ∀ xs ∈ M, xs.length ≤ maxLen) (_ : ∀ xs ∈ M, ∀ x ∈ xs, (Lit.int .i64 x).wf = true) (_ : R0.length ≤ maxLen) (_ : ∀ x ∈ R0, (Lit.int .i64 x).wf = true) (z0 : R0.length * 8 ≤ 140737488351232) (_ : R1.length ≤ maxLen) (_ : ∀ x ∈ R1, (Lit.int .i64 x).wf = true) (z1 : R1.length * 8 ≤ 140737488351232)
    (_ : M0.length ≤ maxLen) (_ : ∀ x ∈ M0, (Lit.int .i64 x).wf = true) (z2 : M0.length * 8 ≤ 140737488351232) (_ : M1.length ≤ maxLen) (_ : ∀ x ∈ M1, (Lit.int .i64 x).wf = true) (z3 : M1.length * 8 ≤ 140737488351232) (hw : (Lit.int .i64 a2).wf = true) (_ : (Lit.int .i64 a3).wf = true) : bailifflaw16_JudgeLeaves.f O P M R0 R1 M0 M1 a2 a3 = some true := by
  have key : ∀ {n : Nat}, n ≤ maxLen → (n : Int) ≤ 9223372036854775807 := fun h => by unfold maxLen at h; omega
  exact leaves_some (c := ⟨O, P, M, R0, R1, M0, M1⟩) (fun r hr => key (hrow r hr)) (key hM) z0 z1 z2 z3 (by simpa [Lit.wf, IntKind.min, IntKind.max, IntKind.signed, IntKind.bits] using hw)
end Go.Bw
