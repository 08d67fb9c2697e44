/- The case that every law of the judge asks for, as its model tells it; how often a number stands in a list. Conditions: none. -/
import Derived.Test.YtmkidaijgdgcjaaBwJudge4
set_option linter.unusedVariables false
set_option linter.unusedSimpArgs false
set_option linter.unusedSectionVars false
namespace Go.Bw
open Go Go.RowKit Tj

theorem count_run {l : List Int} {x : Int} (hl : (l.length : Int) ≤ 9223372036854775807) : bailiffref16_Count.f l x = some (l.count x : Int) := by
  obtain ⟨r, hr, rfl⟩ := iter_meas (body := fun t_ : Int × Int => bailiffref16_Count.l0b l x t_.1 t_.2)
    (fun s => 0 ≤ s.2 ∧ s.2 ≤ (l.length : Int) ∧ s.1 = ((l.take s.2.toNat).count x : Int))
    (fun r => r = .inl (l.count x : Int)) (fun s => (l.length - s.2).toNat)
    (fun ⟨n, k⟩ ⟨a0, a1, a2⟩ => by
      dsimp only at a0 a1 a2 ⊢
      unfold bailiffref16_Count.l0b
      by_cases hk : k < (l.length : Int)
      · right
        have ht : l.take (k + 1).toNat = l.take k.toNat ++ [gt l k] := by
          rw [show (k + 1).toNat = k.toNat + 1 from by omega, List.take_add_one, gt_some a0 hk]; rfl
        have hcl : ((l.take k.toNat).count x : Int) ≤ k := by
          have := List.count_le_length (a := x) (l := l.take k.toNat)
          simp at this
          omega
        rw [if_pos hk, if_pos ⟨a0, hk⟩, wrap64 (x := k + 1) (by omega) (by omega)]
        by_cases he : gt l k = x
        · rw [if_pos he, jn_inl, wrap64 (x := n + 1) (by omega) (by omega)]
          refine ⟨_, rfl, ⟨by dsimp only; omega, by dsimp only; omega, ?_⟩, by dsimp only; omega⟩
          dsimp only
          rw [ht, count_app, if_pos he.symm, a2]
        · rw [if_neg he, jn_inl]
          refine ⟨_, rfl, ⟨by dsimp only; omega, by dsimp only; omega, ?_⟩, by dsimp only; omega⟩
          dsimp only
          rw [ht, count_app, if_neg (fun e => he e.symm), a2]
          omega
      · left
        rw [if_neg hk]
        rw [List.take_of_length_le (by omega)] at a2
        exact ⟨_, rfl, by rw [a2]⟩) (0, 0) ⟨Int.le_refl _, by dsimp only; omega, by simp⟩
  have hr' : bailiffref16_Count.l0 l x 0 0 = some (.inl (l.count x : Int)) := hr
  unfold bailiffref16_Count.f
  rw [hr', jn_inl]
def cGood : Cl := ⟨[0, 1], [0, 1], [[0, 1], [0, 1]], [0], [1], [0, -1], [-1, 1]⟩
def cBad : Cl := ⟨[0, 1], [0, 1], [[0, 1], [0, 1]], [0, 1], [], [0, -1], [-1, 1]⟩
theorem ok2 {i : Int} (h0 : 0 ≤ i) (h1 : i < (2 : Int)) : i = 0 ∨ i = 1 := by omega
theorem rise01 : Rise 2 [0, 1] := fun k h0 h1 => by
  simp at h1
  rcases ok2 h0 (by omega) with rfl | rfl
  · exact ⟨by simp [gt], fun h => by omega⟩
  · exact ⟨by simp [gt], fun _ => by simp [gt]⟩
theorem gr2 : GR [0, 1] [0, 1] [[0, 1], [0, 1]] := by
  have hok : ∀ {i : Int}, Tj.Ok ([[0, 1], [0, 1]] : List (List Int)) i → i = 0 ∨ i = 1 := fun {i} h => by
    have h1 := h.1
    have h2 := h.2
    simp at h2
    omega
  have hg : ∀ {i : Int}, Tj.Ok ([[0, 1], [0, 1]] : List (List Int)) i → gt ([[0, 1], [0, 1]] : List (List Int)) i = [0, 1] := fun {i} h => by
    rcases hok h with rfl | rfl <;> simp [gt]
  refine ⟨rfl, rfl, by decide, by decide, fun i h => ?_, fun i h => ?_, fun i h => ?_, fun i h => ?_⟩
  · rcases hok h with rfl | rfl <;> simp [gt]
  · rcases hok h with rfl | rfl <;> simp [gt]
  · rw [hg h]; simp
  · rw [hg h]; exact rise01
theorem prio01_0 : prio [0, 1] 0 = 0 := by simp [prio, gt]
theorem prio01_1 : prio [0, 1] 1 = 1 := by simp [prio, gt]
theorem par10 : ¬ par 1 0 := by unfold par; decide
theorem par11 : par 1 1 := rfl
theorem good_says : cGood.Says (0, 0, 0) := by
  refine .ok (-1) (-1) gr2 (fun i h0 h1 => ?_) rfl (fun i h0 h1 => ?_) (fun i h0 h1 => ?_) ?_ (by decide) ?_ (by decide)
  · rcases ok2 h0 h1 with rfl | rfl <;> (unfold Odd; decide)
  · rcases ok2 h0 h1 with rfl | rfl
    · exact fun h => h.2 (by decide)
    · exact fun h => absurd h.1 (by decide)
  · rcases ok2 h0 h1 with rfl | rfl
    · exact fun h => absurd h.1 (by decide)
    · exact fun h => h.2 (by decide)
  · refine ⟨fun n h => h.1.1, .inl ⟨rfl, fun n h => ?_⟩⟩
    obtain ⟨a, b, y, e, _⟩ := h
    have a2 := a.2
    rw [gph_len] at a2
    rcases ok2 a.1 a2 with rfl | rfl
    · exact par01 (by have := b; rwa [show cGood.P = [0, 1] from rfl, prio01_0] at this)
    · have h1 := e.1
      rw [gph_gt (by decide) (by decide)] at h1
      revert h1
      rw [if_neg (by decide)]
      simp
  · refine ⟨fun n h => h.1.1, .inl ⟨rfl, fun n h => ?_⟩⟩
    obtain ⟨a, b, y, e, _⟩ := h
    have a2 := a.2
    rw [gph_len] at a2
    rcases ok2 a.1 a2 with rfl | rfl
    · have h1 := e.1
      rw [gph_gt (by decide) (by decide)] at h1
      revert h1
      rw [if_neg (by decide)]
      simp
    · exact par10 (by have := b; rwa [show cGood.P = [0, 1] from rfl, prio01_1] at this)
theorem bad_says : cBad.Says (21, 0, 1) := by
  refine .cyc0 1 gr2 (fun i h0 h1 => ?_) rfl (fun i h0 h1 => ?_) (fun i h0 h1 => ?_) ?_ (by decide)
  · rcases ok2 h0 h1 with rfl | rfl <;> (unfold Odd; decide)
  · rcases ok2 h0 h1 with rfl | rfl
    · exact fun h => h.2 (by decide)
    · exact fun h => h.2 (by decide)
  · rcases ok2 h0 h1 with rfl | rfl <;> exact fun h => absurd h.1 (by decide)
  · refine ⟨fun n h => h.1.1, .inr ⟨⟨⟨by decide, by rw [gph_len]; decide⟩, ?_, ?_⟩, fun n h => ?_⟩⟩
    · rw [show cBad.P = [0, 1] from rfl, prio01_1]; exact par11
    · refine self_cyc ⟨by decide, by rw [gph_len]; decide⟩ ?_
      rw [gph_gt (by decide) (by decide), if_pos (by decide)]
      decide
    · obtain ⟨a, b, _⟩ := h
      have a2 := a.2
      rw [gph_len] at a2
      rcases ok2 a.1 a2 with rfl | rfl
      · exact absurd (by have := b; rwa [show cBad.P = [0, 1] from rfl, prio01_0] at this) par01
      · omega
theorem shown16_run : bailifflaw16_shown.f = some true := by
  have hrow : ∀ r ∈ ([[0, 1], [0, 1]] : List (List Int)), (r.length : Int) ≤ 9223372036854775807 := fun r hr => by
    simp at hr
    rw [hr]
    simp
  obtain ⟨v, e1, s1⟩ := judge_run (c := cGood) hrow (by decide) (by decide) (by decide)
  obtain ⟨u, e2, s2⟩ := judge_run (c := cBad) hrow (by decide) (by decide) (by decide)
  rw [s1.uniq good_says] at e1
  rw [s2.uniq bad_says] at e2
  unfold bailifflaw16_shown.f
  have e1' : judge_Judge.f ([0, 1] : List Int) ([0, 1] : List Int) ([([0, 1] : List Int), ([0, 1] : List Int)] : List (List Int)) ([0] : List Int) ([1] : List Int) ([0, (-1)] : List Int) ([(-1), 1] : List Int) = some (0, 0, 0) := e1
  have e2' : judge_Judge.f ([0, 1] : List Int) ([0, 1] : List Int) ([([0, 1] : List Int), ([0, 1] : List Int)] : List (List Int)) ([0, 1] : List Int) ([] : List Int) ([0, (-1)] : List Int) ([(-1), 1] : List Int) = some (21, 0, 1) := e2
  rw [e1']
  simp only [Option.bind_some]
  rw [if_pos (by decide), e2']
  rfl
end Go.Bw
