/- JudgeSays' model comes to true. Conditions: none. -/
import Derived.Test.YtmkidaijgdgcjaaBwSays1
import Derived.Test.YtmkidaijgdgcjaaBwSame1
import Derived.Test.YtmkidaijgdgcjaaBwJSay
set_option linter.unusedVariables false
set_option linter.unusedSimpArgs false
set_option linter.unusedSectionVars false
namespace Go.Bw
open Go Go.RowKit Tj

theorem copy09_run {O P : List Int} {M : List (List Int)} (hO : O.length * 8 ≤ 140737488351232) (hP : P.length * 8 ≤ 140737488351232) (hM : M.length * 24 ≤ 140737488351232) (hrow : ∀ r ∈ M, r.length * 8 ≤ 140737488351232) : bailiffref09_Copy.f O P M = some M := by
  obtain ⟨r, hr, rfl⟩ := iter_meas (body := fun t_ : (List (List Int)) × Int => bailiffref09_Copy.l0b M t_.1 t_.2)
    (fun s => 0 ≤ s.2 ∧ s.2 ≤ (M.length : Int) ∧ s.1 = M.take s.2.toNat)
    (fun r => r = .inl M) (fun s => (M.length - s.2).toNat)
    (fun ⟨o, i⟩ ⟨a0, a1, a2⟩ => by
      dsimp only at a0 a1 a2 ⊢
      unfold bailiffref09_Copy.l0b
      by_cases hi : i < (M.length : Int)
      · right
        have hlen := hrow _ (gt_mem a0 hi)
        have hol : o.length = i.toNat := by rw [a2, List.length_take]; omega
        rw [if_pos hi, if_pos ⟨a0, hi⟩, if_pos (by simp; omega), if_pos (by omega), wrap64 (x := i + 1) (by omega) (by omega)]
        refine ⟨_, rfl, ⟨by dsimp only; omega, by dsimp only; omega, ?_⟩, by dsimp only; omega⟩
        dsimp only
        rw [a2, show (i + 1).toNat = i.toNat + 1 from by omega, List.take_add_one, gt_some a0 hi]
        simp
      · left
        rw [if_neg hi]
        rw [List.take_of_length_le (by omega)] at a2
        rw [a2]
        exact ⟨_, rfl, rfl⟩) ([], 0) ⟨Int.le_refl _, by dsimp only; omega, by simp⟩
  have hl : bailiffref09_Copy.l0 M ([] : List (List Int)) 0 = some (.inl M) := hr
  unfold bailiffref09_Copy.f
  rw [if_pos (by simp; omega), if_pos (by simp; omega), hl, jn_inl]
theorem same09_run {O P : List Int} {M : List (List Int)} (hO : O.length * 8 ≤ 140737488351232) (hP : P.length * 8 ≤ 140737488351232) (hM : M.length * 24 ≤ 140737488351232) (hrow : ∀ r ∈ M, r.length * 8 ≤ 140737488351232) : bailiffref09_Same.f O P M O P M = some true := by
  obtain ⟨r, hr, rfl⟩ := iter_meas (body := fun t_ : Int => bailiffref09_Same.l0b M M t_)
    (fun i => 0 ≤ i ∧ i ≤ (M.length : Int)) (fun r => r = .inl ()) (fun i => (M.length - i).toNat)
    (fun i ⟨a0, a1⟩ => by
      unfold bailiffref09_Same.l0b
      by_cases hi : i < (M.length : Int)
      · right
        have hlen := hrow _ (gt_mem a0 hi)
        rw [if_pos hi, if_pos ⟨a0, hi⟩, if_pos ⟨a0, hi⟩, same_run (by omega)]
        simp only [Option.bind_some]
        rw [if_pos (by simp), wrap64 (x := i + 1) (by omega) (by omega)]
        exact ⟨_, rfl, ⟨by omega, by omega⟩, by omega⟩
      · left
        rw [if_neg hi]
        exact ⟨_, rfl, rfl⟩) 0 ⟨Int.le_refl _, by omega⟩
  have hl : bailiffref09_Same.l0 M M 0 = some (.inl ()) := hr
  unfold bailiffref09_Same.f
  rw [same_run (by omega), same_run (by omega)]
  simp only [Option.bind_some]
  rw [if_pos (by simp), jn_inl, if_neg (by simp), jn_inl, if_neg (by simp), hl, jn_inl]
theorem kept16_run {R0 R1 M0 M1 : List Int} (z0 : R0.length * 8 ≤ 140737488351232) (z1 : R1.length * 8 ≤ 140737488351232) (z2 : M0.length * 8 ≤ 140737488351232) (z3 : M1.length * 8 ≤ 140737488351232) :
    bailifflaw16_kept.f R0 [0] R1 [0] M0 [0] M1 [0] R0 R1 M0 M1 = some true := by
  have w : ∀ {l : List Int}, l.length * 8 ≤ 140737488351232 → IntKind.i64.wrap ((l.length : Int) + 1) = (l.length : Int) + 1 := fun h => wrap64 (by omega) (by omega)
  have t : ∀ l : List Int, (l ++ ([0] : List Int)).take ((l.length : Int) + 1).toNat = l ++ [0] := fun l => List.take_of_length_le (by simp)
  have g : ∀ l : List Int, gt (l ++ ([0] : List Int)) (l.length : Int) = 0 := fun l => gt_last
  unfold bailifflaw16_kept.f
  rw [same_run (by omega), same_run (by omega)]
  simp only [Option.bind_some]
  rw [w z0, w z1, w z2, w z3, t, t, t, t, g, g, g, g, if_pos (by simp <;> omega), if_pos (by simp <;> omega), if_pos (by simp <;> omega), jn_inl, if_neg (by simp), if_pos (by simp <;> omega), jn_inl, if_neg (by simp), if_pos (by simp <;> omega), jn_inl, if_neg (by simp), same_run (by omega), same_run (by omega)]
  simp only [Option.bind_some]
  rw [if_pos (by simp <;> omega), if_pos (by simp <;> omega), if_pos (by simp <;> omega), jn_inl, if_neg (by simp), if_pos (by simp <;> omega), jn_inl, if_neg (by simp), if_pos (by simp <;> omega), jn_inl, if_neg (by simp)]
theorem lent2_run {R0 R1 M0 M1 : List Int} (h0 : R0.length * 8 ≤ 140737488351232) (h1 : R1.length * 8 ≤ 140737488351232) (h2 : M0.length * 8 ≤ 140737488351232) (h3 : M1.length * 8 ≤ 140737488351232) : bailifflaw16_lent_v2.f R0 R1 M0 M1 = some () := by
  unfold bailifflaw16_lent_v2.f
  rw [if_pos (by simp; omega), if_pos (by simp; omega), if_pos (by simp; omega), if_pos (by simp; omega), if_pos (by simp; omega), if_pos (by simp; omega), if_pos (by simp; omega), if_pos (by simp; omega), if_pos (by simp; omega), if_pos (by simp; omega), if_pos (by simp; omega), if_pos (by simp; omega)]
theorem says_some {c : Cl} (hO : c.O.length * 8 ≤ 140737488351232) (hP : c.P.length * 8 ≤ 140737488351232) (hM : c.M.length * 24 ≤ 140737488351232) (hrow : ∀ r ∈ c.M, r.length * 8 ≤ 140737488351232)
    (z0 : c.R0.length * 8 ≤ 140737488351232) (z1 : c.R1.length * 8 ≤ 140737488351232) (z2 : c.M0.length * 8 ≤ 140737488351232) (z3 : c.M1.length * 8 ≤ 140737488351232) :
    bailifflaw16_JudgeSays.f c.O c.P c.M c.R0 c.R1 c.M0 c.M1 = some true := by
  have hrow' : ∀ r ∈ c.M, (r.length : Int) ≤ 9223372036854775807 := fun r hr => by have := hrow r hr; omega
  obtain ⟨v, e, s⟩ := judge_run (c := c) hrow' (by omega) (by omega) (by omega)
  obtain ⟨v', e', s'⟩ := judge16_run (c := c) hrow' (by omega) (by omega)
  obtain rfl := s.uniq s'
  have t : ∀ l : List Int, ((([] : List Int) ++ l) ++ ([0] : List Int)).take (l.length : Int).toNat = l := fun l => by simp
  have d : ∀ l : List Int, ((([] : List Int) ++ l) ++ ([0] : List Int)).drop (l.length : Int).toNat = [0] := fun l => by simp
  unfold bailifflaw16_JudgeSays.f
  rw [shown16_run, copy09_run hO hP hM hrow]
  simp only [Option.bind_some]
  rw [lent2_run z0 z1 z2 z3]
  simp only [Option.bind_some]
  rw [e']
  simp only [Option.bind_some, t, d, List.nil_append] at *
  rw [e]
  simp only [Option.bind_some]
  rw [if_pos (by simp), if_pos (by simp), same09_run hO hP hM hrow]
  simp only [Option.bind_some]
  rw [kept16_run z0 z1 z2 z3]
  rfl
theorem bailifflaw16_JudgeSays_run {O P : List Int} {M : List (List Int)} {R0 R1 M0 M1 : List Int} (_ : O.length ≤ maxLen) (_ : ∀ x ∈ O, (Lit.int .i64 x).wf = true) (y0 : O.length * 8 ≤ 140737488351232) (_ : P.length ≤ maxLen) (_ : ∀ x ∈ P, (Lit.int .i64 x).wf = true) (y1 : P.length * 8 ≤ 140737488351232)
    (hM : M.length ≤ maxLen) (hrow : ∀ xs ∈ M, xs.length ≤ maxLen) (_ : ∀ xs ∈ M, ∀ x ∈ xs, (Lit.int .i64 x).wf = true) (y2 : M.length * 24 ≤ 140737488351232) (y3 : ∀ xs ∈ M, xs.length * 8 ≤ 140737488351232) (_ : R0.length ≤ maxLen) (_ : ∀ x ∈ R0, (Lit.int .i64 x).wf = true) (z0 : R0.length * 8 ≤ 140737488351232) (_ : R1.length ≤ maxLen) (_ : ∀ x ∈ R1, (Lit.int .i64 x).wf = true) (z1 : R1.length * 8 ≤ 140737488351232)
    (_ : M0.length ≤ maxLen) (_ : ∀ x ∈ M0, (Lit.int .i64 x).wf = true) (z2 : M0.length * 8 ≤ 140737488351232) (_ : M1.length ≤ maxLen) (_ : ∀ x ∈ M1, (Lit.int .i64 x).wf = true) (z3 : M1.length * 8 ≤ 140737488351232) : bailifflaw16_JudgeSays.f O P M R0 R1 M0 M1 = some true :=
  says_some (c := ⟨O, P, M, R0, R1, M0, M1⟩) y0 y1 y2 y3 z0 z1 z2 z3
end Go.Bw
