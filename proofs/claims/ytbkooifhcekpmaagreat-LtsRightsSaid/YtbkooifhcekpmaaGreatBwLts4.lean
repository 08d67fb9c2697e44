/- When a name may be: both models say the same. Conditions: none. -/
import Derived.Test.YtbkooifhcekpmaaGreatBwLts1
set_option linter.unusedVariables false
set_option linter.unusedSimpArgs false
set_option linter.unusedSectionVars false
namespace Go.Bw
open Go Go.RowKit

/-- A loop that asks p of each. -/
theorem up_iff {ρ : Type} {body : Int → Option (Int ⊕ (Unit ⊕ ρ))} {N : Int} {p : Int → Prop} {bad : ρ} (hN : N ≤ 9223372036854775807) (k0 : Int) (h0 : 0 ≤ k0)
    (h : ∀ i, k0 ≤ i → i < N → (p i ∧ body i = some (.inl (IntKind.i64.wrap (i + 1)))) ∨ (¬ p i ∧ body i = some (.inr (.inr bad)))) (he : ∀ i, ¬ i < N → body i = some (.inr (.inl ()))) :
    (iter body k0 = some (.inl ()) ∧ ∀ i, k0 ≤ i → i < N → p i) ∨ (iter body k0 = some (.inr bad) ∧ ∃ i, k0 ≤ i ∧ i < N ∧ ¬ p i) := by
  obtain ⟨r, hr, hq⟩ := iter_meas (body := body) (fun i => k0 ≤ i ∧ ∀ j, k0 ≤ j → j < i → p j) (fun r => (r = .inl () ∧ ∀ i, k0 ≤ i → i < N → p i) ∨ (r = .inr bad ∧ ∃ i, k0 ≤ i ∧ i < N ∧ ¬ p i)) (fun i => (N - i).toNat) (fun i ⟨h1, h2⟩ => by
    by_cases hi : i < N
    · rcases h i h1 hi with ⟨hp, hb⟩ | ⟨hp, hb⟩
      · right
        rw [wrap64 (by omega) (by omega)] at hb
        refine ⟨_, hb, ⟨by omega, fun j j0 j1 => ?_⟩, by omega⟩
        by_cases hj : j = i
        · subst hj; exact hp
        · exact h2 j j0 (by omega)
      · left; exact ⟨_, hb, .inr ⟨rfl, i, h1, hi, hp⟩⟩
    · left; exact ⟨_, he i hi, .inl ⟨rfl, fun j j0 j1 => h2 j j0 (by omega)⟩⟩) k0 ⟨Int.le_refl _, fun j j0 j1 => by omega⟩
  rcases hq with ⟨rfl, hq⟩ | ⟨rfl, hq⟩
  · exact .inl ⟨hr, hq⟩
  · exact .inr ⟨hr, hq⟩
/-! ### Names -/
def OkB (c : Int) : Prop := 97 ≤ c ∧ c ≤ 122 ∨ 65 ≤ c ∧ c ≤ 90 ∨ 48 ≤ c ∧ c ≤ 57 ∨ c = 95
theorem rune_run (r : Int) : ∃ b, lts_name_1.f r = some b ∧ (b = true ↔ ¬ OkB r) := by
  obtain ⟨b, hb⟩ := rune_name r
  refine ⟨b, hb, ?_⟩
  unfold lts_name_1.f at hb
  unfold OkB
  by_cases h1 : 97 ≤ r <;> by_cases h2 : 65 ≤ r <;> by_cases h3 : 48 ≤ r <;> simp [h1, h2, h3, jn] at hb <;> (try omega) <;>
    (by_cases h4 : r ≤ 122 <;> by_cases h5 : r ≤ 90 <;> by_cases h6 : r ≤ 57 <;> by_cases h7 : r = 95 <;> simp [h4, h5, h6, h7] at hb <;> first | omega | (subst hb; simp; omega))
theorem rune_low {s : Bs} {k : Nat} (hk : k < s.length) (h : bat s k < 128) : runeAt s k = bat s k ∧ runeLen s k = 1 := by
  have hg : ((ByteArray.mk s.toArray).get! k).toNat = (s.getD k 0).toNat := by
    simp [ByteArray.get!, List.getD_eq_getElem?_getD, hk]
  have h' : (s.getD k 0).toNat < 128 := by
    have : bat s k = ((s.getD k 0).toNat : Int) := by simp [bat]
    omega
  unfold runeAt runeLen Utf8.decode
  simp only [Nat.add_zero, hg, if_pos (show (s.getD k 0).toNat < 0x80 from h')]
  simp [bat]
theorem rune_high {s : Bs} {k : Nat} (hk : k < s.length) (h : 128 ≤ bat s k) : 128 ≤ runeAt s k := by
  have hg : ((ByteArray.mk s.toArray).get! k).toNat = (s.getD k 0).toNat := by
    simp [ByteArray.get!, List.getD_eq_getElem?_getD, hk]
  have h' : ¬ (s.getD k 0).toNat < 0x80 := by
    have : bat s k = ((s.getD k 0).toNat : Int) := by simp [bat]
    omega
  unfold runeAt Utf8.decode
  simp only [Nat.add_zero, hg, if_neg h']
  have e : (Utf8.runeError : Nat) = 65533 := rfl
  repeat' split
  all_goals try dsimp only
  all_goals first
    | omega
    | (rename_i hc; simp only [Bool.and_eq_true, decide_eq_true_eq] at hc; omega)
    | (rw [e]; omega)
theorem okB_low {c : Int} (h : OkB c) : c < 128 := by unfold OkB at h; omega
/-- What may be a name. -/
def NameS (s : Bs) : Prop := 1 ≤ s.length ∧ s.length ≤ 8 ∧ 97 ≤ bat s 0 ∧ bat s 0 ≤ 122 ∧ s ≠ [116, 116] ∧ s ≠ [102, 102] ∧ s ≠ [109, 117] ∧ s ≠ [110, 117] ∧ ∀ i : Int, 0 ≤ i → i < (s.length : Int) → OkB (bat s i)
theorem contains_runes (s : Bs) : ∃ b, strings_ContainsFunc.f s = some b ∧ (b = true ↔ ¬ ∀ i : Int, 0 ≤ i → i < (s.length : Int) → OkB (bat s i)) := by
  obtain ⟨r, hr, hq⟩ := iter_meas (body := fun t_ : Nat => strings_indexFunc.l0b s true t_) (fun k => ∀ i : Int, 0 ≤ i → i < (k : Int) → i < (s.length : Int) → OkB (bat s i))
    (fun r => (∃ k, r = .inl k ∧ ∀ i : Int, 0 ≤ i → i < (s.length : Int) → OkB (bat s i)) ∨ ∃ k : Nat, r = .inr (k : Int) ∧ ¬ ∀ i : Int, 0 ≤ i → i < (s.length : Int) → OkB (bat s i)) (fun k => s.length - k) (fun k hI => by
      unfold strings_indexFunc.l0b
      by_cases hk : k < s.length
      · obtain ⟨b, hb, hb2⟩ := rune_run (runeAt s k)
        rw [if_pos hk, hb]
        simp only [Option.bind_some]
        by_cases hl : bat s k < 128
        · obtain ⟨e1, e2⟩ := rune_low hk hl
          rw [e1] at hb2
          rw [e2]
          cases b with
          | true =>
            left
            refine ⟨_, rfl, .inr ⟨k, rfl, fun hall => hb2.1 rfl (hall k (by omega) (by omega))⟩⟩
          | false =>
            right
            have hok : OkB (bat s k) := Classical.not_not.1 fun h => by have := hb2.2 h; cases this
            refine ⟨_, rfl, fun i i0 i1 i2 => ?_, by omega⟩
            by_cases hi : i = (k : Int)
            · subst hi; exact hok
            · exact hI i i0 (by omega) i2
        · have hh := rune_high hk (by omega)
          have hbt : b = true := hb2.2 fun h => by have := okB_low h; omega
          subst hbt
          left
          exact ⟨_, rfl, .inr ⟨k, rfl, fun hall => by have := okB_low (hall k (by omega) (by omega)); omega⟩⟩
      · left; rw [if_neg hk]; exact ⟨_, rfl, .inl ⟨k, rfl, fun i i0 i1 => hI i i0 (by omega) i1⟩⟩) 0 (fun i i0 i1 => by omega)
  unfold strings_ContainsFunc.f strings_IndexFunc.f strings_indexFunc.f strings_indexFunc.l0
  rw [hr]
  rcases hq with ⟨k, rfl, hq⟩ | ⟨k, rfl, hq⟩
  · exact ⟨false, rfl, by simp; exact hq⟩
  · exact ⟨true, by simp [jn], by simp only [true_iff]; exact hq⟩
end Go.Bw
