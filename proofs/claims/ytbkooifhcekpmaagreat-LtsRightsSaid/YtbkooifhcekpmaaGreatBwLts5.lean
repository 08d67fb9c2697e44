/- Names and lists that rise: both models say the same. Conditions: none. -/
import Derived.Test.YtbkooifhcekpmaaGreatBwLts4
set_option linter.unusedVariables false
set_option linter.unusedSimpArgs false
set_option linter.unusedSectionVars false
namespace Go.Bw
open Go Go.RowKit

theorem jn_up_true {x : Option (Unit ⊕ Bool)} {p : Prop} (h : (x = some (.inl ()) ∧ p) ∨ (x = some (.inr false) ∧ ¬ p)) : ∃ b, jn x (fun _ => some true) = some b ∧ (b = true ↔ p) := by
  rcases h with ⟨rfl, h⟩ | ⟨rfl, h⟩
  · exact ⟨true, rfl, by simp [h]⟩
  · exact ⟨false, rfl, by simp [h]⟩
theorem name_iff (s : Bs) : ∃ b, lts_name.f s = some b ∧ (b = true ↔ NameS s) := by
  obtain ⟨c, hc, hc2⟩ := contains_runes s
  unfold lts_name.f NameS
  by_cases h1 : (s.length : Int) < 1
  · exact ⟨false, by simp [h1, jn], by simp; omega⟩
  by_cases h2 : 8 < (s.length : Int)
  · exact ⟨false, by simp [h1, h2, jn], by simp; omega⟩
  have h0 : (0 : Int) ≤ 0 ∧ 0 < (s.length : Int) := by omega
  simp only [if_neg h1, jn_inl, decide_eq_false h2, Bool.false_eq_true, if_false, if_pos h0]
  by_cases h3 : bat s 0 < 97
  · exact ⟨false, by simp [h3, jn], by simp; omega⟩
  by_cases h4 : 122 < bat s 0
  · exact ⟨false, by simp [h3, h4, jn], by simp; omega⟩
  simp only [decide_eq_false h3, decide_eq_false h4, Bool.false_eq_true, if_false, jn_inl, bseq_iff, hc, Option.bind_some]
  by_cases k1 : s = [116, 116]
  · exact ⟨false, by simp [k1], by simp [k1]⟩
  by_cases k2 : s = [102, 102]
  · exact ⟨false, by simp [k2], by simp [k2]⟩
  by_cases k3 : s = [109, 117]
  · exact ⟨false, by simp [k3], by simp [k3]⟩
  by_cases k4 : s = [110, 117]
  · exact ⟨false, by simp [k4], by simp [k4]⟩
  refine ⟨!c, by simp [k1, k2, k3, k4], ?_⟩
  have hc3 : (!c) = true ↔ ∀ i : Int, 0 ≤ i → i < (s.length : Int) → OkB (bat s i) := by
    cases c with
    | true => simp only [Bool.not_true, Bool.false_eq_true, false_iff]; exact hc2.1 rfl
    | false =>
      simp only [Bool.not_false, true_iff]
      exact Classical.not_not.1 fun h => by have := hc2.2 h; cases this
  rw [hc3]
  exact ⟨fun h => ⟨by omega, by omega, by omega, by omega, k1, k2, k3, k4, h⟩, fun h => h.2.2.2.2.2.2.2.2⟩
theorem refName_loop (s : Bs) (hs : s.length ≤ 8) : (bailiffref03_Name.l0 s 0 = some (.inl ()) ∧ ∀ i : Int, 0 ≤ i → i < (s.length : Int) → OkB (bat s i)) ∨ (bailiffref03_Name.l0 s 0 = some (.inr false) ∧ ∃ i : Int, 0 ≤ i ∧ i < (s.length : Int) ∧ ¬ OkB (bat s i)) := by
  refine up_iff (body := fun t_ : Int => bailiffref03_Name.l0b s t_) (N := s.length) (p := fun i => OkB (bat s i)) (by omega) 0 (by decide) (fun i h0 h1 => ?_) (fun i h => by simp only [bailiffref03_Name.l0b]; rw [if_neg h]; rfl)
  simp only [bailiffref03_Name.l0b]
  rw [if_pos h1, if_pos ⟨h0, h1⟩]
  generalize bat s i = c
  unfold OkB
  by_cases a1 : 97 ≤ c <;> by_cases a2 : 65 ≤ c <;> by_cases a3 : 48 ≤ c <;> simp [a1, a2, a3, jn, nx, upL] <;> (try omega) <;>
    (by_cases h4 : c ≤ 122 <;> by_cases h5 : c ≤ 90 <;> by_cases h6 : c ≤ 57 <;> by_cases h7 : c = 95 <;> simp [h4, h5, h6, h7] <;> omega)
theorem refName_iff (s : Bs) : ∃ b, bailiffref03_Name.f s = some b ∧ (b = true ↔ NameS s) := by
  unfold bailiffref03_Name.f NameS
  by_cases h1 : (s.length : Int) < 1
  · exact ⟨false, by simp [h1, jn], by simp; omega⟩
  by_cases h2 : 8 < (s.length : Int)
  · exact ⟨false, by simp [h1, h2, jn], by simp; omega⟩
  have h0 : (0 : Int) ≤ 0 ∧ 0 < (s.length : Int) := by omega
  simp only [if_neg h1, jn_inl, decide_eq_false h2, Bool.false_eq_true, if_false, if_pos h0]
  by_cases h3 : bat s 0 < 97
  · exact ⟨false, by simp [h3, jn], by simp; omega⟩
  by_cases h4 : 122 < bat s 0
  · exact ⟨false, by simp [h3, h4, jn], by simp; omega⟩
  have bz : ∀ t : Bs, s ≠ t → bseq s t = false := fun t h => Bool.eq_false_iff.2 fun hc => h (bseq_iff.1 hc)
  by_cases k1 : s = [116, 116]
  · exact ⟨false, by rw [bseq_iff.2 k1]; simp [h3, h4, jn], by simp [k1]⟩
  by_cases k2 : s = [102, 102]
  · exact ⟨false, by rw [bz _ k1, bseq_iff.2 k2]; simp [h3, h4, jn], by simp [k2]⟩
  by_cases k3 : s = [109, 117]
  · exact ⟨false, by rw [bz _ k1, bz _ k2, bseq_iff.2 k3]; simp [h3, h4, jn], by simp [k3]⟩
  by_cases k4 : s = [110, 117]
  · exact ⟨false, by rw [bz _ k1, bz _ k2, bz _ k3, bseq_iff.2 k4]; simp [h3, h4, jn], by simp [k4]⟩
  rw [bz _ k1, bz _ k2, bz _ k3, bz _ k4]
  simp only [decide_eq_false h3, decide_eq_false h4, Bool.false_eq_true, if_false, jn_inl]
  rcases refName_loop s (by omega) with ⟨hl, hq⟩ | ⟨hl, i, i0, i1, i2⟩
  · exact ⟨true, by rw [hl]; rfl, by simp only [true_iff]; exact ⟨by omega, by omega, by omega, by omega, k1, k2, k3, k4, hq⟩⟩
  · exact ⟨false, by rw [hl]; rfl, by simp only [Bool.false_eq_true, false_iff]; exact fun h => i2 (h.2.2.2.2.2.2.2.2 i i0 i1)⟩
/-! ### Lists that rise -/
/-- Each stands ahead of the next. -/
def Rise {α : Type} [Inhabited α] (lt : α → α → Prop) (a : List α) : Prop := ∀ i : Int, 1 ≤ i → i < (a.length : Int) → lt (gt a (i - 1)) (gt a i)
theorem rises_int_iff (a : List Int) (ha : (a.length : Int) ≤ 9223372036854775807) : ∃ b, lts_rises_int.f a = some b ∧ (b = true ↔ Rise (· < ·) a) := by
  refine jn_up_true ?_
  rcases up_iff (body := fun t_ : Int => lts_rises_int.l0b a t_) (N := a.length) (p := fun i => gt a (i - 1) < gt a i) (bad := false) ha 1 (by decide) (fun i h0 h1 => by
    simp only [lts_rises_int.l0b]
    rw [if_pos h1, wrap64 (x := i - 1) (by omega) (by omega), if_pos (by omega), if_pos (by omega), cmp_int_run]
    simp only [Option.bind_some]
    by_cases hp : gt a (i - 1) < gt a i
    · left; rw [if_neg (by have := cmp3_lt.2 hp; omega)]; exact ⟨hp, rfl⟩
    · right; rw [if_pos (by have : ¬ cmp3 (gt a (i - 1)) (gt a i) < 0 := fun h => hp (cmp3_lt.1 h); omega)]; exact ⟨hp, rfl⟩) (fun i h => by simp only [lts_rises_int.l0b]; rw [if_neg h]; rfl) with ⟨h, q⟩ | ⟨h, i, i0, i1, i2⟩
  · exact .inl ⟨h, q⟩
  · exact .inr ⟨h, fun hr => i2 (hr i i0 i1)⟩
def BLt (x y : Bs) : Prop := Lib.compareBytes x y < 0
theorem rises_str_iff (a : List Bs) (ha : (a.length : Int) ≤ 9223372036854775807) : ∃ b, lts_rises_string.f a = some b ∧ (b = true ↔ Rise BLt a) := by
  refine jn_up_true ?_
  rcases up_iff (body := fun t_ : Int => lts_rises_string.l0b a t_) (N := a.length) (p := fun i => BLt (gt a (i - 1)) (gt a i)) (bad := false) ha 1 (by decide) (fun i h0 h1 => by
    simp only [lts_rises_string.l0b]
    rw [if_pos h1, wrap64 (x := i - 1) (by omega) (by omega), if_pos (by omega), if_pos (by omega)]
    simp only [strings_Compare.f, bytealg_CompareString.f, Option.bind_some]
    by_cases hp : BLt (gt a (i - 1)) (gt a i)
    · left; rw [if_neg (by unfold BLt at hp; omega)]; exact ⟨hp, rfl⟩
    · right; rw [if_pos (by unfold BLt at hp; omega)]; exact ⟨hp, rfl⟩) (fun i h => by simp only [lts_rises_string.l0b]; rw [if_neg h]; rfl) with ⟨h, q⟩ | ⟨h, i, i0, i1, i2⟩
  · exact .inl ⟨h, q⟩
  · exact .inr ⟨h, fun hr => i2 (hr i i0 i1)⟩
theorem rises_prop_iff (a : List api_Prop) (ha : (a.length : Int) ≤ 9223372036854775807) : ∃ b, lts_rises_api_Prop.f a = some b ∧ (b = true ↔ Rise (fun p q => BLt p.Name q.Name) a) := by
  refine jn_up_true ?_
  rcases up_iff (body := fun t_ : Int => lts_rises_api_Prop.l0b a t_) (N := a.length) (p := fun i => BLt (gt a (i - 1)).Name (gt a i).Name) (bad := false) ha 1 (by decide) (fun i h0 h1 => by
    simp only [lts_rises_api_Prop.l0b]
    rw [if_pos h1, wrap64 (x := i - 1) (by omega) (by omega), if_pos (by omega), if_pos (by omega)]
    simp only [lts_byName.f, strings_Compare.f, bytealg_CompareString.f, Option.bind_some]
    by_cases hp : BLt (gt a (i - 1)).Name (gt a i).Name
    · left; rw [if_neg (by unfold BLt at hp; omega)]; exact ⟨hp, rfl⟩
    · right; rw [if_pos (by unfold BLt at hp; omega)]; exact ⟨hp, rfl⟩) (fun i h => by simp only [lts_rises_api_Prop.l0b]; rw [if_neg h]; rfl) with ⟨h, q⟩ | ⟨h, i, i0, i1, i2⟩
  · exact .inl ⟨h, q⟩
  · exact .inr ⟨h, fun hr => i2 (hr i i0 i1)⟩
theorem rises_edge_iff (a : List api_Edge) (ha : (a.length : Int) ≤ 9223372036854775807) : ∃ b, lts_rises_api_Edge.f a = some b ∧ (b = true ↔ Rise edgeLt a) := by
  refine jn_up_true ?_
  rcases up_iff (body := fun t_ : Int => lts_rises_api_Edge.l0b a t_) (N := a.length) (p := fun i => edgeLt (gt a (i - 1)) (gt a i)) (bad := false) ha 1 (by decide) (fun i h0 h1 => by
    simp only [lts_rises_api_Edge.l0b]
    rw [if_pos h1, wrap64 (x := i - 1) (by omega) (by omega), if_pos (by omega), if_pos (by omega), edge_run]
    simp only [Option.bind_some]
    by_cases hp : edgeLt (gt a (i - 1)) (gt a i)
    · left; rw [if_neg (by have := edgeCmp_lt.2 hp; omega)]; exact ⟨hp, rfl⟩
    · right; rw [if_pos (by have : ¬ edgeCmp (gt a (i - 1)) (gt a i) < 0 := fun h => hp (edgeCmp_lt.1 h); omega)]; exact ⟨hp, rfl⟩) (fun i h => by simp only [lts_rises_api_Edge.l0b]; rw [if_neg h]; rfl) with ⟨h, q⟩ | ⟨h, i, i0, i1, i2⟩
  · exact .inl ⟨h, q⟩
  · exact .inr ⟨h, fun hr => i2 (hr i i0 i1)⟩
end Go.Bw
