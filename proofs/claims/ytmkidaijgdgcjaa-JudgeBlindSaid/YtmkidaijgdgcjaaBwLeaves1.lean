/- A move that is turned, and what the judge says then. Conditions: none. -/
import Derived.Test.YtmkidaijgdgcjaaBwShown16
set_option linter.unusedVariables false
set_option linter.unusedSimpArgs false
set_option linter.unusedSectionVars false
namespace Go.Bw
open Go Go.RowKit Tj

section
variable {c c' : Cl} {p q w to : Int} {v : Int × Int × Int}
/-- The claim c', which is c but for one move. -/
structure Turn (c c' : Cl) (p w to : Int) : Prop where
  O : c'.O = c.O
  P : c'.P = c.P
  M : c'.M = c.M
  R0 : c'.R0 = c.R0
  R1 : c'.R1 = c.R1
  own : c'.A p = st (c.A p) w to
  oth : ∀ q, q = 0 ∨ q = 1 → q ≠ p → c'.A q = c.A q
theorem Turn.R (t : Turn c c' p w to) (q : Int) : c'.R q = c.R q := by unfold Cl.R; rw [t.R0, t.R1]
theorem Turn.mvo (t : Turn c c' p w to) (hq : q = 0 ∨ q = 1) (hne : q ≠ p) (i : Int) : c'.mv q i = c.mv q i := by unfold Cl.mv; rw [t.oth q hq hne]
theorem Turn.mvp (t : Turn c c' p w to) (h0 : 0 ≤ w) (h1 : w < ((c.A p).length : Int)) {i : Int} (hi : 0 ≤ i) : c'.mv p i = if i = w then to else c.mv p i := by
  unfold Cl.mv
  rw [t.own, st_len]
  by_cases h : i < ((c.A p).length : Int)
  · rw [if_pos h, if_pos h, gt_st h0 h1 hi]
  · rw [if_neg h, if_neg h, if_neg (by omega)]
theorem Turn.stpo (t : Turn c c' p w to) (hq : q = 0 ∨ q = 1) (hne : q ≠ p) (i : Int) : c'.stp q i = c.stp q i := by
  unfold Cl.stp
  rw [t.mvo hq hne, t.R, t.O, t.M]
theorem Turn.stpp (t : Turn c c' p w to) (h0 : 0 ≤ w) (h1 : w < ((c.A p).length : Int)) {i : Int} (hi : 0 ≤ i) (hne : i ≠ w) : c'.stp p i = c.stp p i := by
  unfold Cl.stp
  rw [t.mvp h0 h1 hi, if_neg hne, t.R, t.O, t.M]
theorem Turn.stpw (t : Turn c c' p w to) (h0 : 0 ≤ w) (h1 : w < ((c.A p).length : Int)) (ho : gt c.O w = p) : c'.stp p w = if to ∈ gt c.M w then (if to ∈ c.R p then ([to], 0) else ([], 20)) else ([], 16) := by
  unfold Cl.stp
  rw [t.mvp h0 h1 h0, if_pos rfl, t.R, t.O, t.M, if_pos ho]
theorem Turn.gpho (t : Turn c c' p w to) (hq : q = 0 ∨ q = 1) (hne : q ≠ p) : c'.gph q = c.gph q := by
  unfold Cl.gph
  rw [t.O, t.R]
  exact List.map_congr_left fun i _ => by rw [t.stpo hq hne]
theorem Acc_len (a : c.Acc) (hp : p = 0 ∨ p = 1) (h0 : 0 ≤ w) (h1 : w < (c.O.length : Int)) (hw : w ∈ c.R p) (ho : gt c.O w = p) : w < ((c.A p).length : Int) := by
  obtain ⟨m1, _, _⟩ := a.own hp h0 h1 hw ho
  by_cases h : w < ((c.A p).length : Int)
  · exact h
  · exfalso
    unfold Cl.mv at m1
    rw [if_neg h] at m1
    have := gr_range a.gr h0 h1 _ m1
    omega
theorem leaves_core (t : Turn c c' p w to) (a : c.Acc) (hp : p = 0 ∨ p = 1) (h0 : 0 ≤ w) (h1 : w < (c.O.length : Int)) (hw : w ∈ c.R p) (ho : gt c.O w = p) (s : c'.Says v) :
    (to ∉ gt c.M w → v = (16, p, w)) ∧ (to ∈ gt c.M w → to ∉ c.R p → v = (20, p, w)) ∧ (to ∈ gt c.M w → to ∈ c.R p → v = (0, 0, 0) ∨ (v.1 = 21 ∧ v.2.1 = p)) := by
  have hl := Acc_len a hp h0 h1 hw ho
  have hlen : (c'.O.length : Int) = c.O.length := by rw [t.O]
  have gr' : GR c'.O c'.P c'.M := by rw [t.O, t.P, t.M]; exact a.gr
  have part' : ∀ i : Int, 0 ≤ i → i < (c'.O.length : Int) → ¬ Odd c'.R0 c'.R1 i := by rw [t.O, t.R0, t.R1]; exact a.part
  have off' : (offs c'.O.length c'.R0 c'.R1).1 = 0 := by rw [t.O, t.R0, t.R1]; exact a.off
  have so : ∀ q, q = 0 ∨ q = 1 → q ≠ p → ∀ i, 0 ≤ i → i < (c'.O.length : Int) → ¬ c'.BadS q i := fun q hq hne i b0 b1 hb => by
    unfold Cl.BadS at hb
    rw [t.R, t.stpo hq hne] at hb
    exact a.step hq b0 (by omega) hb
  have sp : ∀ i, 0 ≤ i → i < (c'.O.length : Int) → i ≠ w → ¬ c'.BadS p i := fun i b0 b1 hne hb => by
    unfold Cl.BadS at hb
    rw [t.R, t.stpp h0 hl b0 hne] at hb
    exact a.step hp b0 (by omega) hb
  have hbad : ∀ e : Int, (c'.stp p w).2 = e → e ≠ 0 → v = (e, p, w) := fun e he hne => by
    have hf : Fst c'.O.length (c'.BadS p) w := ⟨⟨h0, by omega⟩, ⟨by rw [t.R]; exact hw, by rw [he]; exact hne⟩, fun j b0 b1 => sp j b0 (by omega) (by omega)⟩
    rcases hp with rfl | rfl
    · rw [s.uniq (.step0 w gr' part' off' hf), he]
    · rw [s.uniq (.step1 w gr' part' off' (so 0 (.inl rfl) (by decide)) hf), he]
  have hstp := t.stpw h0 hl ho
  refine ⟨fun h => hbad 16 (by rw [hstp, if_neg h]) (by decide), fun h h' => hbad 20 (by rw [hstp, if_pos h, if_neg h']) (by decide), fun h h' => ?_⟩
  have hall : ∀ q, q = 0 ∨ q = 1 → ∀ i, 0 ≤ i → i < (c'.O.length : Int) → ¬ c'.BadS q i := fun q hq i b0 b1 => by
    by_cases hqp : q = p
    · subst hqp
      by_cases hiw : i = w
      · subst hiw
        exact fun hb => hb.2 (by rw [hstp, if_pos h, if_pos h'])
      · exact sp i b0 b1 hiw
    · exact so q hq hqp i b0 b1
  have hcyc : ∀ q b, q = 0 ∨ q = 1 → q ≠ p → c'.BadC q b → b < 0 := fun q b hq hne hb => by
    unfold Cl.BadC at hb
    rw [t.gpho hq hne, t.P] at hb
    have key : ∃ x, c.BadC q x ∧ x < 0 := by
      rcases hq with rfl | rfl
      · exact a.cyc0
      · exact a.cyc1
    obtain ⟨x, hx, hn⟩ := key
    have := Mn.uniq hb hx
    omega
  cases s
  case arg k => exact absurd gr' k
  case part i _ k => exact (no_fst k part').elim
  case off _ _ k => exact absurd off' k
  case step0 i _ _ _ k => exact (no_fst k (hall 0 (.inl rfl))).elim
  case step1 i _ _ _ _ k => exact (no_fst k (hall 1 (.inr rfl))).elim
  case cyc0 b _ _ _ _ _ k hb =>
    rcases hp with rfl | rfl
    · exact .inr ⟨rfl, rfl⟩
    · have := hcyc 0 b (.inl rfl) (by decide) k; omega
  case cyc1 x b _ _ _ _ _ _ _ k hb =>
    rcases hp with rfl | rfl
    · have := hcyc 1 b (.inr rfl) (by decide) k; omega
    · exact .inr ⟨rfl, rfl⟩
  case ok => exact .inl rfl
/-- What is lent of a claim is the claim. -/
theorem lent_take (l : List Int) : ((([] : List Int) ++ l) ++ ([0] : List Int)).take (l.length : Int).toNat = l := by simp
theorem lent_run {R0 R1 M0 M1 : List Int} (h0 : R0.length * 8 ≤ 140737488351232) (h1 : R1.length * 8 ≤ 140737488351232) (h2 : M0.length * 8 ≤ 140737488351232) (h3 : M1.length * 8 ≤ 140737488351232) : bailifflaw16_lent.f R0 R1 M0 M1 = some () := by
  unfold bailifflaw16_lent.f
  rw [if_pos (by simp; omega), if_pos (by simp; omega), if_pos (by simp; omega), if_pos (by simp; omega), if_pos (by simp; omega), if_pos (by simp; omega), if_pos (by simp; omega), if_pos (by simp; omega), if_pos (by simp; omega), if_pos (by simp; omega), if_pos (by simp; omega), if_pos (by simp; omega)]
end
end Go.Bw
