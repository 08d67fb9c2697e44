/- Sets of small numbers as four words: what with, of come to. Conditions: none. -/
import Derived.Test.YtbkooifhcekpmaaGreatBwNew
import Derived.Test.YtbkooifhcekpmaaGreatBwWords
set_option linter.unusedVariables false
set_option linter.unusedSimpArgs false
set_option linter.unusedSectionVars false
namespace Go.Bw
open Go Go.RowKit

theorem with_run {u : W4} {n : Int} : sets_Set_With.f (Wd u.a) (Wd u.b) (Wd u.c) (Wd u.d) n = some (if 0 ≤ n ∧ n < 256 then u.put n else u).t := by
  unfold sets_Set_With.f
  by_cases h0 : 0 ≤ n
  · rw [if_pos h0, jn_inl]
    by_cases h1 : n < 256
    · have hm : IntKind.u64.wrap (band .i64 n 63) = n % 64 := by rw [band63 h0 (by omega), wrapu (by omega) (by omega)]
      rw [if_pos (decide_eq_true h1), shr6 h0, hm, shl_one (by omega) (by omega), if_pos (by omega), if_pos (show 0 ≤ n ∧ n < 256 from ⟨h0, h1⟩)]
      have hn : (0 : Int) ≤ n % 64 := by omega
      simp only [if_pos hn, bor_wd]
      unfold W4.put W4.t
      by_cases k0 : n / 64 = 0
      · rw [if_pos k0, if_pos k0]
      · by_cases k1 : n / 64 = 1
        · rw [if_neg k0, if_neg k0, if_pos k1, if_pos k1]
        · by_cases k2 : n / 64 = 2
          · rw [if_neg k0, if_neg k0, if_neg k1, if_neg k1, if_pos k2, if_pos k2]
          · rw [if_neg k0, if_neg k0, if_neg k1, if_neg k1, if_neg k2, if_neg k2]
    · rw [if_neg (by simp; omega), if_neg (by omega)]
      rfl
  · rw [if_neg h0, jn_inl, if_neg (by simp), if_neg (by omega)]
    rfl
theorem of_run4 {l : List Int} (hl : (l.length : Int) ≤ 9223372036854775807) : ∃ u : W4, sets_Of.f l = some u.t ∧ u.Rep (· ∈ l) := by
  obtain ⟨r, hr, u, rfl, h⟩ := iter_meas (body := fun t_ : Int × Int × Int × Int × Int => sets_Of.l0b l t_.1 t_.2.1 t_.2.2.1 t_.2.2.2.1 t_.2.2.2.2)
    (fun s => 0 ≤ s.2.2.2.2 ∧ s.2.2.2.2 ≤ (l.length : Int) ∧ ∃ u : W4, (s.1, s.2.1, s.2.2.1, s.2.2.2.1) = u.t ∧ u.Rep (· ∈ l.take s.2.2.2.2.toNat))
    (fun r => ∃ u : W4, r = .inl u.t ∧ u.Rep (· ∈ l)) (fun s => (l.length - s.2.2.2.2).toNat)
    (fun ⟨w0, w1, w2, w3, i⟩ ⟨a0, a1, u, a2, a3⟩ => by
      dsimp only at a0 a1 a2 a3 ⊢
      simp only [W4.t, Prod.mk.injEq] at a2
      obtain ⟨rfl, rfl, rfl, rfl⟩ := a2
      unfold sets_Of.l0b
      by_cases hi : i < (l.length : Int)
      · right
        rw [if_pos hi, if_pos ⟨a0, hi⟩, with_run, wrap64 (x := i + 1) (by omega) (by omega)]
        refine ⟨_, rfl, ⟨by dsimp only; omega, by dsimp only; omega, _, rfl, fun n n0 n1 => ?_⟩, by dsimp only; omega⟩
        dsimp only
        rw [show (i + 1).toNat = i.toNat + 1 from by omega, List.take_add_one, gt_some a0 hi, List.mem_append]
        simp only [Option.toList_some, List.mem_singleton]
        by_cases hg : 0 ≤ gt l i ∧ gt l i < 256
        · rw [if_pos hg]
          exact W4.put_rep a3 hg.1 hg.2 n n0 n1
        · rw [if_neg hg, a3 n n0 n1]
          exact ⟨.inl, fun h => h.elim id fun h => absurd (h ▸ ⟨n0, n1⟩) hg⟩
      · left
        rw [if_neg hi]
        refine ⟨_, rfl, u, rfl, ?_⟩
        rwa [List.take_of_length_le (by omega)] at a3) (0, 0, 0, 0, 0) ⟨Int.le_refl _, by dsimp only; omega, W4.z, rfl, fun n n0 n1 => by
          dsimp only
          rw [W4.z_rep n n0 n1]
          simp⟩
  refine ⟨u, ?_, h⟩
  unfold sets_Of.f
  have hl : sets_Of.l0 l 0 0 0 0 0 = some (.inl u.t) := hr
  rw [hl, jn_inl]
end Go.Bw
