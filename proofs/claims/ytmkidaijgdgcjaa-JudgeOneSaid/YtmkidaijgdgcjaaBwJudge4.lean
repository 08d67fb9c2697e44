/- What the judge's verdict is worth: it is one; who is accepted; two accepted claims don't cross at a position. Conditions: none. -/
import Derived.Test.YtmkidaijgdgcjaaBwJudge3
set_option linter.unusedVariables false
set_option linter.unusedSimpArgs false
set_option linter.unusedSectionVars false
namespace Go.Bw
open Go Go.RowKit Tj

theorem offs_zero {n : Int} {R0 R1 : List Int} : (offs n R0 R1).1 = 0 ↔ (∀ x ∈ R0, 0 ≤ x ∧ x < n) ∧ ∀ x ∈ R1, 0 ≤ x ∧ x < n := by
  unfold offs off2 off1
  cases h0 : R0.find? (oor n) with
  | some y =>
    have hy := List.find?_some h0
    have hm := List.mem_of_find?_eq_some h0
    simp
    intro h
    exact absurd (h y hm) (oor_true.1 hy)
  | none =>
    rw [List.find?_eq_none] at h0
    have h0' : ∀ x ∈ R0, 0 ≤ x ∧ x < n := fun x hx => oor_false.1 (by simpa using h0 x hx)
    cases h1 : R1.find? (oor n) with
    | some y =>
      have hy := List.find?_some h1
      have hm := List.mem_of_find?_eq_some h1
      constructor
      · intro h; simp at h
      · rintro ⟨_, h⟩; exact absurd (h y hm) (oor_true.1 hy)
    | none =>
      rw [List.find?_eq_none] at h1
      have h1' : ∀ x ∈ R1, 0 ≤ x ∧ x < n := fun x hx => oor_false.1 (by simpa using h1 x hx)
      simp
      exact ⟨h0', h1'⟩
theorem no_fst {n : Int} {p : Int → Prop} {i : Int} (h : Fst n p i) (h' : ∀ i : Int, 0 ≤ i → i < n → ¬ p i) : False := h' i h.1.1 h.1.2 h.2.1
section
variable {c : Cl} {v v' : Int × Int × Int}
theorem Cl.BadC.neg {p a b : Int} (h : c.BadC p a) (h' : c.BadC p b) : a = b := Mn.uniq h h'
theorem Cl.Says.uniq (h : c.Says v) (h' : c.Says v') : v = v' := by
  cases h
  case arg h1 => cases h' <;> first | rfl | exact absurd ‹GR c.O c.P c.M› h1
  case part i h1 h2 =>
    cases h'
    case part j _ k2 => rw [h2.uniq k2]
    case arg k => exact absurd h1 k
    all_goals exact (no_fst h2 ‹∀ i : Int, 0 ≤ i → i < (c.O.length : Int) → ¬ Odd c.R0 c.R1 i›).elim
  case off h1 h2 h3 =>
    cases h'
    case part j _ k2 => exact (no_fst k2 h2).elim
    case arg k => exact absurd h1 k
    case off => rfl
    all_goals exact absurd ‹(offs c.O.length c.R0 c.R1).1 = 0› h3
  case step0 i h1 h2 h3 h4 =>
    cases h'
    case part j _ k2 => exact (no_fst k2 h2).elim
    case arg k => exact absurd h1 k
    case off _ _ k => exact absurd h3 k
    case step0 j _ _ _ k => rw [h4.uniq k]
    all_goals exact (no_fst h4 ‹∀ i : Int, 0 ≤ i → i < (c.O.length : Int) → ¬ c.BadS 0 i›).elim
  case step1 i h1 h2 h3 h4 h5 =>
    cases h'
    case part j _ k2 => exact (no_fst k2 h2).elim
    case arg k => exact absurd h1 k
    case off _ _ k => exact absurd h3 k
    case step0 j _ _ _ k => exact (no_fst k h4).elim
    case step1 j _ _ _ _ k => rw [h5.uniq k]
    all_goals exact (no_fst h5 ‹∀ i : Int, 0 ≤ i → i < (c.O.length : Int) → ¬ c.BadS 1 i›).elim
  case cyc0 b h1 h2 h3 h4 h5 h6 h7 =>
    cases h'
    case part j _ k2 => exact (no_fst k2 h2).elim
    case arg k => exact absurd h1 k
    case off _ _ k => exact absurd h3 k
    case step0 j _ _ _ k => exact (no_fst k h4).elim
    case step1 j _ _ _ _ k => exact (no_fst k h5).elim
    case cyc0 b' _ _ _ _ _ k _ => rw [h6.neg k]
    case cyc1 a' b' _ _ _ _ _ k1 k2 _ _ => have := h6.neg k1; omega
    case ok a' b' _ _ _ _ _ k1 k2 _ _ => have := h6.neg k1; omega
  case cyc1 a b h1 h2 h3 h4 h5 h6 h7 h8 h9 =>
    cases h'
    case part j _ k2 => exact (no_fst k2 h2).elim
    case arg k => exact absurd h1 k
    case off _ _ k => exact absurd h3 k
    case step0 j _ _ _ k => exact (no_fst k h4).elim
    case step1 j _ _ _ _ k => exact (no_fst k h5).elim
    case cyc0 b' _ _ _ _ _ k _ => have := h6.neg k; omega
    case cyc1 a' b' _ _ _ _ _ k1 k2 k3 _ => rw [h8.neg k3]
    case ok a' b' _ _ _ _ _ k1 k2 k3 _ => have := h8.neg k3; omega
  case ok a b h1 h2 h3 h4 h5 h6 h7 h8 h9 =>
    cases h'
    case part j _ k2 => exact (no_fst k2 h2).elim
    case arg k => exact absurd h1 k
    case off _ _ k => exact absurd h3 k
    case step0 j _ _ _ k => exact (no_fst k h4).elim
    case step1 j _ _ _ _ k => exact (no_fst k h5).elim
    case cyc0 b' _ _ _ _ _ k _ => have := h6.neg k; omega
    case cyc1 a' b' _ _ _ _ _ k1 k2 k3 _ => have := h8.neg k3; omega
    case ok => rfl
/-- A claim that is accepted. -/
structure Cl.Acc (c : Cl) : Prop where
  gr : GR c.O c.P c.M
  part : ∀ i : Int, 0 ≤ i → i < (c.O.length : Int) → ¬ Odd c.R0 c.R1 i
  off : (offs c.O.length c.R0 c.R1).1 = 0
  step0 : ∀ i, 0 ≤ i → i < (c.O.length : Int) → ¬ c.BadS 0 i
  step1 : ∀ i, 0 ≤ i → i < (c.O.length : Int) → ¬ c.BadS 1 i
  cyc0 : ∃ a, c.BadC 0 a ∧ a < 0
  cyc1 : ∃ a, c.BadC 1 a ∧ a < 0
theorem Cl.Says.acc (h : c.Says v) : v.1 = 0 ↔ c.Acc := by
  constructor
  · intro h0
    cases h
    case arg => simp at h0
    case part => simp at h0
    case off _ _ k => exact absurd h0 k
    case step0 i _ _ _ k => exact absurd h0 k.2.1.2
    case step1 i _ _ _ _ k => exact absurd h0 k.2.1.2
    case cyc0 => simp at h0
    case cyc1 => simp at h0
    case ok a b h1 h2 h3 h4 h5 h6 h7 h8 h9 => exact ⟨h1, h2, h3, h4, h5, ⟨a, h6, h7⟩, ⟨b, h8, h9⟩⟩
  · intro a
    obtain ⟨x, h6, h7⟩ := a.cyc0
    obtain ⟨y, h8, h9⟩ := a.cyc1
    have := h.uniq (.ok x y a.gr a.part a.off a.step0 a.step1 h6 h7 h8 h9)
    rw [this]
theorem Cl.Acc.step (a : c.Acc) {p i : Int} (hp : p = 0 ∨ p = 1) (h0 : 0 ≤ i) (h1 : i < (c.O.length : Int)) : ¬ c.BadS p i := by
  rcases hp with rfl | rfl
  · exact a.step0 i h0 h1
  · exact a.step1 i h0 h1
theorem Cl.Acc.cyc (a : c.Acc) {p : Int} (hp : p = 0 ∨ p = 1) {x : Int} (hx : 0 ≤ x) (hx' : x < (c.O.length : Int)) (hpar : par (prio c.P x) (1 - p)) : ¬ OnCyc (c.gph p) c.P (prio c.P x) x := fun hc => by
  have key : ∃ b, c.BadC p b ∧ b < 0 := by
    rcases hp with rfl | rfl
    · exact a.cyc0
    · exact a.cyc1
  obtain ⟨b, hb, hn⟩ := key
  have := (Mn.nonneg hb).2 ⟨x, ⟨hx, by rw [gph_len]; exact hx'⟩, hpar, hc⟩
  omega
theorem gph_gt {p i : Int} (h0 : 0 ≤ i) (h1 : i < (c.O.length : Int)) : gt (c.gph p) i = if i ∈ c.R p then (c.stp p i).1 else [] := by
  unfold Cl.gph
  rw [gt_range h0 h1, show ((i.toNat : Nat) : Int) = i from by omega]
/-- Of a position of an accepted region: where its owner's steps lead. -/
theorem Cl.Acc.own (a : c.Acc) {p i : Int} (hp : p = 0 ∨ p = 1) (h0 : 0 ≤ i) (h1 : i < (c.O.length : Int)) (hi : i ∈ c.R p) (ho : gt c.O i = p) : c.mv p i ∈ gt c.M i ∧ c.mv p i ∈ c.R p ∧ gt (c.gph p) i = [c.mv p i] := by
  have hs : (c.stp p i).2 = 0 := by
    have := a.step hp h0 h1
    exact Classical.not_not.1 fun h => this ⟨hi, h⟩
  rw [gph_gt h0 h1, if_pos hi]
  unfold Cl.stp at hs ⊢
  rw [if_pos ho] at hs ⊢
  by_cases h2 : c.mv p i ∈ gt c.M i
  · rw [if_pos h2] at hs ⊢
    by_cases h3 : c.mv p i ∈ c.R p
    · rw [if_pos h3]; exact ⟨h2, h3, rfl⟩
    · rw [if_neg h3] at hs; exact absurd hs (by decide)
  · rw [if_neg h2] at hs; exact absurd hs (by decide)
theorem Cl.Acc.other (a : c.Acc) {p i : Int} (hp : p = 0 ∨ p = 1) (h0 : 0 ≤ i) (h1 : i < (c.O.length : Int)) (hi : i ∈ c.R p) (ho : gt c.O i ≠ p) : (∀ m ∈ gt c.M i, m ∈ c.R p) ∧ gt (c.gph p) i = gt c.M i := by
  have hs : (c.stp p i).2 = 0 := by
    have := a.step hp h0 h1
    exact Classical.not_not.1 fun h => this ⟨hi, h⟩
  rw [gph_gt h0 h1, if_pos hi]
  unfold Cl.stp at hs ⊢
  rw [if_neg ho] at hs ⊢
  by_cases h2 : ∀ m ∈ gt c.M i, m ∈ c.R p
  · rw [if_pos h2]; exact ⟨h2, rfl⟩
  · rw [if_neg h2] at hs; exact absurd hs (by decide)
theorem self_cyc {G : List (List Int)} {pr : List Int} {x : Int} (h0 : Tj.Ok G x) (h : x ∈ gt G x) : OnCyc G pr (prio pr x) x := ⟨x, ⟨h, h0, by unfold upto; simp⟩, .refl x⟩
/-- Two accepted claims of one game, by the same moves: a position alone can't be both players'. -/
theorem clash {c c' : Cl} (hO : c'.O = c.O) (hP : c'.P = c.P) (hM : c'.M = c.M) {p q : Int} (hpq : (p = 0 ∧ q = 1) ∨ (p = 1 ∧ q = 0)) (a : c.Acc) (a' : c'.Acc) {w : Int} (h0 : 0 ≤ w) (h1 : w < (c.O.length : Int)) (hw : w ∈ c.R p) (hw' : w ∈ c'.R q)
    (hsep : ∀ m, 0 ≤ m → m < (c.O.length : Int) → m ∈ c.R p → m ∈ c'.R q → m = w) : False := by
  have hp : p = 0 ∨ p = 1 := by omega
  have hq : q = 0 ∨ q = 1 := by omega
  have hl := a.gr.lo
  have own := a.gr.own w ⟨h0, by omega⟩
  have h1' : w < (c'.O.length : Int) := by rw [hO]; exact h1
  have okp : Tj.Ok (c.gph p) w := ⟨h0, by rw [gph_len]; exact h1⟩
  have okq : Tj.Ok (c'.gph q) w := ⟨h0, by rw [gph_len]; exact h1'⟩
  have hself : w ∈ gt (c.gph p) w ∧ w ∈ gt (c'.gph q) w := by
    by_cases ho : gt c.O w = p
    · obtain ⟨m1, m2, m3⟩ := a.own hp h0 h1 hw ho
      obtain ⟨n1, n2⟩ := a'.other hq h0 h1' hw' (by rw [hO]; omega)
      rw [hM] at n1 n2
      have hr := gr_range a.gr h0 h1 _ m1
      have e := hsep _ hr.1 hr.2 m2 (n1 _ m1)
      rw [m3, n2]
      exact ⟨by rw [e]; simp, by rw [e] at m1; exact m1⟩
    · obtain ⟨n1, n2⟩ := a.other hp h0 h1 hw ho
      obtain ⟨m1, m2, m3⟩ := a'.own hq h0 h1' hw' (by rw [hO]; omega)
      rw [hM] at m1
      have hr := gr_range a.gr h0 h1 _ m1
      have e := hsep _ hr.1 hr.2 (n1 _ m1) m2
      rw [n2, m3]
      exact ⟨by rw [e] at m1; exact m1, by rw [e]; simp⟩
  have k1 := fun hpar => a.cyc hp h0 h1 hpar (self_cyc okp hself.1)
  have k2 := fun hpar => a'.cyc hq h0 h1' hpar (self_cyc okq hself.2)
  rw [hP] at k2
  rcases hpq with ⟨rfl, rfl⟩ | ⟨rfl, rfl⟩
  · rcases par_or (prio c.P w) with h | h
    · exact k2 h
    · exact k1 h
  · rcases par_or (prio c.P w) with h | h
    · exact k1 h
    · exact k2 h
end
end Go.Bw
