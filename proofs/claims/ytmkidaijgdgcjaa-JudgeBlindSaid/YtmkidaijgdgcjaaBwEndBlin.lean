/- JudgeBlind's model comes to true, whatever comes in. Conditions: none. -/
import Derived.Test.YtmkidaijgdgcjaaBwLeaves1
import Derived.Test.YtmkidaijgdgcjaaBwBlin
set_option linter.unusedVariables false
set_option linter.unusedSimpArgs false
set_option linter.unusedSectionVars false
namespace Go.Bw
open Go Go.RowKit Tj

section
variable {c c' : Cl} {v : Int × Int × Int}
/-- A claim that says the same where it is read. -/
structure Alike (c c' : Cl) : Prop where
  O : c'.O = c.O
  P : c'.P = c.P
  M : c'.M = c.M
  n0 : ∀ x, c'.R0.count x = c.R0.count x
  n1 : ∀ x, c'.R1.count x = c.R1.count x
  mv : ∀ p i : Int, p = 0 ∨ p = 1 → 0 ≤ i → i < (c.O.length : Int) → i ∈ c.R p → gt c.O i = p → c'.mv p i = c.mv p i
  off : offs c.O.length c'.R0 c'.R1 = offs c.O.length c.R0 c.R1
theorem Alike.R (t : Alike c c') (p i : Int) : i ∈ c'.R p ↔ i ∈ c.R p := by
  unfold Cl.R
  split
  · rw [← List.count_pos_iff, ← List.count_pos_iff, t.n0]
  · rw [← List.count_pos_iff, ← List.count_pos_iff, t.n1]
theorem Alike.stp (t : Alike c c') {p i : Int} (hp : p = 0 ∨ p = 1) (h0 : 0 ≤ i) (h1 : i < (c.O.length : Int)) (hi : i ∈ c.R p) : c'.stp p i = c.stp p i := by
  unfold Cl.stp
  rw [t.O, t.M]
  by_cases ho : gt c.O i = p
  · rw [if_pos ho, if_pos ho, t.mv p i hp h0 h1 hi ho]
    by_cases h : c.mv p i ∈ gt c.M i
    · rw [if_pos h, if_pos h]
      by_cases h' : c.mv p i ∈ c.R p
      · rw [if_pos h', if_pos ((t.R p _).2 h')]
      · rw [if_neg h', if_neg (fun hh => h' ((t.R p _).1 hh))]
    · rw [if_neg h, if_neg h]
  · rw [if_neg ho, if_neg ho]
    by_cases h : ∀ m ∈ gt c.M i, m ∈ c.R p
    · rw [if_pos h, if_pos (fun m hm => (t.R p m).2 (h m hm))]
    · rw [if_neg h, if_neg (fun hh => h fun m hm => (t.R p m).1 (hh m hm))]
theorem Alike.gph (t : Alike c c') {p : Int} (hp : p = 0 ∨ p = 1) : c'.gph p = c.gph p := by
  unfold Cl.gph
  rw [t.O]
  refine List.map_congr_left fun i hi => ?_
  have hi := List.mem_range.1 hi
  by_cases h : (i : Int) ∈ c.R p
  · rw [if_pos h, if_pos ((t.R p _).2 h), t.stp hp (by omega) (by omega) h]
  · rw [if_neg h, if_neg (fun hh => h ((t.R p _).1 hh))]
theorem Alike.bad (t : Alike c c') {p i : Int} (hp : p = 0 ∨ p = 1) (h0 : 0 ≤ i) (h1 : i < (c.O.length : Int)) : c.BadS p i ↔ c'.BadS p i := by
  unfold Cl.BadS
  rw [t.R]
  refine and_congr_right fun hi => ?_
  rw [t.stp hp h0 h1 hi]
theorem Alike.says (t : Alike c c') (h : c.Says v) : c'.Says v := by
  have gr : GR c.O c.P c.M → GR c'.O c'.P c'.M := fun h => by rw [t.O, t.P, t.M]; exact h
  have odd : ∀ i, Odd c.R0 c.R1 i ↔ Odd c'.R0 c'.R1 i := fun i => by unfold Odd; rw [t.n0, t.n1]
  have nodd : (∀ i : Int, 0 ≤ i → i < (c.O.length : Int) → ¬ Odd c.R0 c.R1 i) → ∀ i : Int, 0 ≤ i → i < (c'.O.length : Int) → ¬ Odd c'.R0 c'.R1 i := fun h i h0 h1 => by
    rw [t.O] at h1
    rw [← odd]
    exact h i h0 h1
  have off0 : (offs c.O.length c.R0 c.R1).1 = 0 → (offs c'.O.length c'.R0 c'.R1).1 = 0 := fun h => by rw [t.O, t.off]; exact h
  have nb : ∀ p, p = 0 ∨ p = 1 → (∀ i, 0 ≤ i → i < (c.O.length : Int) → ¬ c.BadS p i) → ∀ i, 0 ≤ i → i < (c'.O.length : Int) → ¬ c'.BadS p i := fun p hp h i h0 h1 hb => by
    rw [t.O] at h1
    exact h i h0 h1 ((t.bad hp h0 h1).2 hb)
  have fb : ∀ p i, p = 0 ∨ p = 1 → Fst c.O.length (c.BadS p) i → Fst c'.O.length (c'.BadS p) i := fun p i hp h => by
    rw [t.O]
    exact h.same fun j h0 h1 => t.bad hp h0 h1
  have bc : ∀ p b, p = 0 ∨ p = 1 → c.BadC p b → c'.BadC p b := fun p b hp h => by
    unfold Cl.BadC at h ⊢
    rw [t.gph hp, t.P]
    exact h
  cases h
  case arg h => exact .arg fun h' => h (by rw [t.O, t.P, t.M] at h'; exact h')
  case part i h1 h2 => exact .part i (gr h1) (by rw [t.O]; exact h2.same fun j _ _ => odd j)
  case off h1 h2 h3 =>
    have e : offs c'.O.length c'.R0 c'.R1 = offs c.O.length c.R0 c.R1 := by rw [t.O, t.off]
    rw [← e]
    exact .off (gr h1) (nodd h2) (by rw [e]; exact h3)
  case step0 i h1 h2 h3 h4 =>
    rw [← t.stp (.inl rfl) h4.1.1 h4.1.2 h4.2.1.1]
    exact .step0 i (gr h1) (nodd h2) (off0 h3) (fb 0 i (.inl rfl) h4)
  case step1 i h1 h2 h3 h4 h5 =>
    rw [← t.stp (.inr rfl) h5.1.1 h5.1.2 h5.2.1.1]
    exact .step1 i (gr h1) (nodd h2) (off0 h3) (nb 0 (.inl rfl) h4) (fb 1 i (.inr rfl) h5)
  case cyc0 b h1 h2 h3 h4 h5 h6 h7 => exact .cyc0 b (gr h1) (nodd h2) (off0 h3) (nb 0 (.inl rfl) h4) (nb 1 (.inr rfl) h5) (bc 0 b (.inl rfl) h6) h7
  case cyc1 a b h1 h2 h3 h4 h5 h6 h7 h8 h9 => exact .cyc1 a b (gr h1) (nodd h2) (off0 h3) (nb 0 (.inl rfl) h4) (nb 1 (.inr rfl) h5) (bc 0 a (.inl rfl) h6) h7 (bc 1 b (.inr rfl) h8) h9
  case ok a b h1 h2 h3 h4 h5 h6 h7 h8 h9 => exact .ok a b (gr h1) (nodd h2) (off0 h3) (nb 0 (.inl rfl) h4) (nb 1 (.inr rfl) h5) (bc 0 a (.inl rfl) h6) h7 (bc 1 b (.inr rfl) h8) h9
/-- What is left of a player's moves: those that are read. -/
def Left (O R M x : List Int) (p : Int) : Prop := x.length = M.length ∧ ∀ i : Int, 0 ≤ i → i < (M.length : Int) → i < (O.length : Int) → gt O i = p → i ∈ R → gt x i = gt M i
theorem noise0_run {O R M ns : List Int} (hM : (M.length : Int) ≤ 9223372036854775807) (hR : (R.length : Int) ≤ 9223372036854775807) (hn : ns ≠ []) :
    ∃ x, bailifflaw16_JudgeBlind.l5 O R M ns M 0 = some (.inl x) ∧ Left O R M x 0 := by
  have hnl : 0 < (ns.length : Int) := by have := List.length_pos_iff.2 hn; omega
  obtain ⟨r, hr, x, rfl, h1⟩ := iter_meas (body := fun t_ : (List Int) × Int => bailifflaw16_JudgeBlind.l5b O R M ns t_.1 t_.2)
    (fun s => 0 ≤ s.2 ∧ s.2 ≤ (M.length : Int) ∧ Left O R M s.1 0) (fun r => ∃ x, r = .inl x ∧ Left O R M x 0) (fun s => (M.length - s.2).toNat)
    (fun ⟨x, k⟩ ⟨a0, a1, a2⟩ => by
      dsimp only at a0 a1 a2 ⊢
      unfold bailifflaw16_JudgeBlind.l5b
      simp only [lent_take]
      by_cases hk : k < (M.length : Int)
      · right
        rw [if_pos hk, wrap64 (x := k + 1) (by omega) (by omega)]
        have hown : ∀ {ρ : Type} (f : Bool → Option ρ), jn (if k < (O.length : Int) then if (0 : Int) ≤ k ∧ k < (O.length : Int) then some (.inl (decide (gt O k = 0))) else none else some (.inl false)) f = f (decide (k < (O.length : Int) ∧ gt O k = 0)) := fun f => by
          by_cases h : k < (O.length : Int)
          · rw [if_pos h, if_pos ⟨a0, h⟩, jn_inl]
            congr 1
            exact decide_eq_decide.2 ⟨fun h' => ⟨h, h'⟩, fun h' => h'.2⟩
          · rw [if_neg h, jn_inl, decide_eq_false (fun h' => h h'.1)]
        have hcnt : ∀ {ρ : Type} (f : Bool → Option ρ), jn (if decide (k < (O.length : Int) ∧ gt O k = 0) = true then (bailiffref16_Count.f R k).bind fun t => some (.inl (decide (0 < t))) else some (.inl false)) f = f (decide ((k < (O.length : Int) ∧ gt O k = 0) ∧ k ∈ R)) := fun f => by
          by_cases h : k < (O.length : Int) ∧ gt O k = 0
          · rw [if_pos (decide_eq_true h), count_run hR]
            simp only [Option.bind_some]
            rw [jn_inl]
            congr 1
            refine decide_eq_decide.2 ⟨fun h' => ⟨h, List.count_pos_iff.1 (by omega)⟩, fun h' => ?_⟩
            have := List.count_pos_iff.2 h'.2
            omega
          · rw [decide_eq_false h, if_neg (by simp), jn_inl, decide_eq_false (fun h' => h h'.1)]
        rw [hown, hcnt]
        by_cases hh : (k < (O.length : Int) ∧ gt O k = 0) ∧ k ∈ R
        · rw [if_pos (decide_eq_true hh), jn_inl]
          exact ⟨_, rfl, ⟨by dsimp only; omega, by dsimp only; omega, a2⟩, by dsimp only; omega⟩
        · rw [if_neg (by simpa using hh), if_pos (by omega), if_pos ⟨Int.tmod_nonneg _ a0, Int.tmod_lt_of_pos _ hnl⟩, if_pos ⟨a0, hk⟩, jn_inl]
          refine ⟨_, rfl, ⟨by dsimp only; omega, by dsimp only; omega, (st_len _ _ _).trans a2.1, fun i b0 b1 b2 b3 b4 => ?_⟩, by dsimp only; omega⟩
          dsimp only
          rw [gt_st a0 (by rw [a2.1]; exact hk) b0, if_neg (fun e => by subst e; exact hh ⟨⟨b2, b3⟩, b4⟩)]
          exact a2.2 i b0 b1 b2 b3 b4
      · left
        rw [if_neg hk]
        exact ⟨_, rfl, x, rfl, a2⟩) (M, 0) ⟨Int.le_refl _, by dsimp only; omega, rfl, fun _ _ _ _ _ _ => rfl⟩
  exact ⟨x, hr, h1⟩
theorem noise1_run {O R M ns : List Int} (hM : (M.length : Int) ≤ 9223372036854775807) (hR : (R.length : Int) ≤ 9223372036854775807) (hn : ns ≠ []) :
    ∃ x, bailifflaw16_JudgeBlind.l4 O R M ns M 0 = some (.inl x) ∧ Left O R M x 1 := by
  have hnl : 0 < (ns.length : Int) := by have := List.length_pos_iff.2 hn; omega
  obtain ⟨r, hr, x, rfl, h1⟩ := iter_meas (body := fun t_ : (List Int) × Int => bailifflaw16_JudgeBlind.l4b O R M ns t_.1 t_.2)
    (fun s => 0 ≤ s.2 ∧ s.2 ≤ (M.length : Int) ∧ Left O R M s.1 1) (fun r => ∃ x, r = .inl x ∧ Left O R M x 1) (fun s => (M.length - s.2).toNat)
    (fun ⟨x, k⟩ ⟨a0, a1, a2⟩ => by
      dsimp only at a0 a1 a2 ⊢
      unfold bailifflaw16_JudgeBlind.l4b
      simp only [lent_take]
      by_cases hk : k < (M.length : Int)
      · right
        rw [if_pos hk, wrap64 (x := k + 1) (by omega) (by omega)]
        have hown : ∀ {ρ : Type} (f : Bool → Option ρ), jn (if k < (O.length : Int) then if (0 : Int) ≤ k ∧ k < (O.length : Int) then some (.inl (decide (gt O k = 1))) else none else some (.inl false)) f = f (decide (k < (O.length : Int) ∧ gt O k = 1)) := fun f => by
          by_cases h : k < (O.length : Int)
          · rw [if_pos h, if_pos ⟨a0, h⟩, jn_inl]
            congr 1
            exact decide_eq_decide.2 ⟨fun h' => ⟨h, h'⟩, fun h' => h'.2⟩
          · rw [if_neg h, jn_inl, decide_eq_false (fun h' => h h'.1)]
        have hcnt : ∀ {ρ : Type} (f : Bool → Option ρ), jn (if decide (k < (O.length : Int) ∧ gt O k = 1) = true then (bailiffref16_Count.f R k).bind fun t => some (.inl (decide (0 < t))) else some (.inl false)) f = f (decide ((k < (O.length : Int) ∧ gt O k = 1) ∧ k ∈ R)) := fun f => by
          by_cases h : k < (O.length : Int) ∧ gt O k = 1
          · rw [if_pos (decide_eq_true h), count_run hR]
            simp only [Option.bind_some]
            rw [jn_inl]
            congr 1
            refine decide_eq_decide.2 ⟨fun h' => ⟨h, List.count_pos_iff.1 (by omega)⟩, fun h' => ?_⟩
            have := List.count_pos_iff.2 h'.2
            omega
          · rw [decide_eq_false h, if_neg (by simp), jn_inl, decide_eq_false (fun h' => h h'.1)]
        rw [hown, hcnt]
        by_cases hh : (k < (O.length : Int) ∧ gt O k = 1) ∧ k ∈ R
        · rw [if_pos (decide_eq_true hh), jn_inl]
          exact ⟨_, rfl, ⟨by dsimp only; omega, by dsimp only; omega, a2⟩, by dsimp only; omega⟩
        · rw [if_neg (by simpa using hh), if_pos (by omega), if_pos ⟨Int.tmod_nonneg _ a0, Int.tmod_lt_of_pos _ hnl⟩, if_pos ⟨a0, hk⟩, jn_inl]
          refine ⟨_, rfl, ⟨by dsimp only; omega, by dsimp only; omega, (st_len _ _ _).trans a2.1, fun i b0 b1 b2 b3 b4 => ?_⟩, by dsimp only; omega⟩
          dsimp only
          rw [gt_st a0 (by rw [a2.1]; exact hk) b0, if_neg (fun e => by subst e; exact hh ⟨⟨b2, b3⟩, b4⟩)]
          exact a2.2 i b0 b1 b2 b3 b4
      · left
        rw [if_neg hk]
        exact ⟨_, rfl, x, rfl, a2⟩) (M, 0) ⟨Int.le_refl _, by dsimp only; omega, rfl, fun _ _ _ _ _ _ => rfl⟩
  exact ⟨x, hr, h1⟩
theorem swap_count {l : List Int} {i j : Int} (h0 : 0 ≤ i) (h1 : i < j) (h2 : j < (l.length : Int)) (y : Int) : (st (st l i (gt l j)) j (gt l i)).count y = l.count y := by
  have gi := gt_some h0 (show i < (l.length : Int) by omega)
  have gj := gt_some (show 0 ≤ j by omega) h2
  have hi : i.toNat < l.length := by omega
  have hj : j.toNat < l.length := by omega
  rw [List.getElem?_eq_getElem hi] at gi
  rw [List.getElem?_eq_getElem hj] at gj
  have gi := Option.some.inj gi
  have gj := Option.some.inj gj
  unfold st
  rw [List.count_set (by simp; omega), List.count_set hi, List.getElem_set_ne (show i.toNat ≠ j.toNat by omega), gi, gj]
  have p1 : gt l i = y → 0 < l.count y := fun e => List.count_pos_iff.2 (e ▸ gt_mem h0 (by omega))
  have p2 : gt l j = y → 0 < l.count y := fun e => List.count_pos_iff.2 (e ▸ gt_mem (by omega) h2)
  by_cases e1 : gt l i = y <;> by_cases e2 : gt l j = y <;> simp [e1, e2] <;> (try have := p1 e1) <;> (try have := p2 e2) <;> omega
theorem swap0_run {R : List Int} (hR : (R.length : Int) ≤ 9223372036854775807) : ∃ x, bailifflaw16_JudgeBlind.l2 R R 0 = some (.inl x) ∧ x.length = R.length ∧ ∀ y, x.count y = R.count y := by
  have hq : Int.tdiv (R.length : Int) 2 = (R.length : Int) / 2 := Int.tdiv_eq_ediv_of_nonneg (by omega)
  obtain ⟨r, hr, x, rfl, h1, h2⟩ := iter_meas (body := fun t_ : (List Int) × Int => bailifflaw16_JudgeBlind.l2b R t_.1 t_.2)
    (fun s => 0 ≤ s.2 ∧ s.2 ≤ (R.length : Int) ∧ s.1.length = R.length ∧ ∀ y, s.1.count y = R.count y) (fun r => ∃ x, r = .inl x ∧ x.length = R.length ∧ ∀ y, x.count y = R.count y) (fun s => (R.length - s.2).toNat)
    (fun ⟨x, k⟩ ⟨a0, a1, a2, a3⟩ => by
      dsimp only at a0 a1 a2 a3 ⊢
      unfold bailifflaw16_JudgeBlind.l2b
      simp only [lent_take]
      rw [hq, wrap64 (x := (R.length : Int) / 2) (by omega) (by omega), wrap64 (x := (R.length : Int) - 1) (by omega) (by omega)]
      by_cases hk : k < (R.length : Int) / 2
      · right
        rw [if_pos hk, wrap64 (x := (R.length : Int) - 1 - k) (by omega) (by omega), if_pos ⟨by omega, by omega⟩, if_pos ⟨a0, by omega⟩, wrap64 (x := k + 1) (by omega) (by omega)]
        refine ⟨_, rfl, ⟨by dsimp only; omega, by dsimp only; omega, by rw [st_len, st_len]; exact a2, fun y => ?_⟩, by dsimp only; omega⟩
        dsimp only
        rw [swap_count a0 (by omega) (by omega)]
        exact a3 y
      · left
        rw [if_neg hk]
        exact ⟨_, rfl, x, rfl, a2, a3⟩) (R, 0) ⟨Int.le_refl _, by dsimp only; omega, rfl, fun _ => rfl⟩
  exact ⟨x, hr, h1, h2⟩
theorem all0_run {O R : List Int} {u v : Int × Int × Int} (hR : (R.length : Int) ≤ 9223372036854775807) : ∃ r, bailifflaw16_JudgeBlind.l0 O R u v 0 = some r ∧ ((r = .inl () ∧ ∀ x ∈ R, 0 ≤ x ∧ x < (O.length : Int)) ∨ r = .inr (decide (v.1 = u.1) && (decide (v.2.1 = u.2.1) && (decide (v.2.2 = u.2.2) && true)))) := by
  refine iter_meas (body := fun t_ : Int => bailifflaw16_JudgeBlind.l0b O R u v t_)
    (fun k => 0 ≤ k ∧ k ≤ (R.length : Int) ∧ ∀ x ∈ R.take k.toNat, 0 ≤ x ∧ x < (O.length : Int)) (fun r => (r = .inl () ∧ ∀ x ∈ R, 0 ≤ x ∧ x < (O.length : Int)) ∨ r = .inr (decide (v.1 = u.1) && (decide (v.2.1 = u.2.1) && (decide (v.2.2 = u.2.2) && true)))) (fun k => (R.length - k).toNat)
    (fun k ⟨a0, a1, a2⟩ => ?_) 0 ⟨Int.le_refl _, by omega, by simp⟩
  unfold bailifflaw16_JudgeBlind.l0b
  simp only [lent_take]
  by_cases hk : k < (R.length : Int)
  · rw [if_pos hk, if_pos ⟨a0, hk⟩, two_jn]
    by_cases hb : gt R k < 0 ∨ (O.length : Int) ≤ gt R k
    · left
      rw [if_pos (decide_eq_true hb)]
      exact ⟨_, rfl, .inr rfl⟩
    · right
      rw [if_neg (by simp; omega), wrap64 (x := k + 1) (by omega) (by omega)]
      refine ⟨_, rfl, ⟨by omega, by omega, fun x hx => ?_⟩, by omega⟩
      rw [show (k + 1).toNat = k.toNat + 1 from by omega, List.take_add_one, gt_some a0 hk] at hx
      rcases List.mem_append.1 hx with h | h
      · exact a2 x h
      · simp at h; rw [h]; omega
  · left
    rw [if_neg hk]
    refine ⟨_, rfl, .inl ⟨rfl, ?_⟩⟩
    rwa [List.take_of_length_le (by omega)] at a2
theorem swap1_run {R : List Int} (hR : (R.length : Int) ≤ 9223372036854775807) : ∃ x, bailifflaw16_JudgeBlind.l3 R R 0 = some (.inl x) ∧ x.length = R.length ∧ ∀ y, x.count y = R.count y := by
  have hq : Int.tdiv (R.length : Int) 2 = (R.length : Int) / 2 := Int.tdiv_eq_ediv_of_nonneg (by omega)
  obtain ⟨r, hr, x, rfl, h1, h2⟩ := iter_meas (body := fun t_ : (List Int) × Int => bailifflaw16_JudgeBlind.l3b R t_.1 t_.2)
    (fun s => 0 ≤ s.2 ∧ s.2 ≤ (R.length : Int) ∧ s.1.length = R.length ∧ ∀ y, s.1.count y = R.count y) (fun r => ∃ x, r = .inl x ∧ x.length = R.length ∧ ∀ y, x.count y = R.count y) (fun s => (R.length - s.2).toNat)
    (fun ⟨x, k⟩ ⟨a0, a1, a2, a3⟩ => by
      dsimp only at a0 a1 a2 a3 ⊢
      unfold bailifflaw16_JudgeBlind.l3b
      simp only [lent_take]
      rw [hq, wrap64 (x := (R.length : Int) / 2) (by omega) (by omega), wrap64 (x := (R.length : Int) - 1) (by omega) (by omega)]
      by_cases hk : k < (R.length : Int) / 2
      · right
        rw [if_pos hk, wrap64 (x := (R.length : Int) - 1 - k) (by omega) (by omega), if_pos ⟨by omega, by omega⟩, if_pos ⟨a0, by omega⟩, wrap64 (x := k + 1) (by omega) (by omega)]
        refine ⟨_, rfl, ⟨by dsimp only; omega, by dsimp only; omega, by rw [st_len, st_len]; exact a2, fun y => ?_⟩, by dsimp only; omega⟩
        dsimp only
        rw [swap_count a0 (by omega) (by omega)]
        exact a3 y
      · left
        rw [if_neg hk]
        exact ⟨_, rfl, x, rfl, a2, a3⟩) (R, 0) ⟨Int.le_refl _, by dsimp only; omega, rfl, fun _ => rfl⟩
  exact ⟨x, hr, h1, h2⟩
theorem all1_run {O R : List Int} {u v : Int × Int × Int} (hR : (R.length : Int) ≤ 9223372036854775807) : ∃ r, bailifflaw16_JudgeBlind.l1 O R u v 0 = some r ∧ ((r = .inl () ∧ ∀ x ∈ R, 0 ≤ x ∧ x < (O.length : Int)) ∨ r = .inr (decide (v.1 = u.1) && (decide (v.2.1 = u.2.1) && (decide (v.2.2 = u.2.2) && true)))) := by
  refine iter_meas (body := fun t_ : Int => bailifflaw16_JudgeBlind.l1b O R u v t_)
    (fun k => 0 ≤ k ∧ k ≤ (R.length : Int) ∧ ∀ x ∈ R.take k.toNat, 0 ≤ x ∧ x < (O.length : Int)) (fun r => (r = .inl () ∧ ∀ x ∈ R, 0 ≤ x ∧ x < (O.length : Int)) ∨ r = .inr (decide (v.1 = u.1) && (decide (v.2.1 = u.2.1) && (decide (v.2.2 = u.2.2) && true)))) (fun k => (R.length - k).toNat)
    (fun k ⟨a0, a1, a2⟩ => ?_) 0 ⟨Int.le_refl _, by omega, by simp⟩
  unfold bailifflaw16_JudgeBlind.l1b
  simp only [lent_take]
  by_cases hk : k < (R.length : Int)
  · rw [if_pos hk, if_pos ⟨a0, hk⟩, two_jn]
    by_cases hb : gt R k < 0 ∨ (O.length : Int) ≤ gt R k
    · left
      rw [if_pos (decide_eq_true hb)]
      exact ⟨_, rfl, .inr rfl⟩
    · right
      rw [if_neg (by simp; omega), wrap64 (x := k + 1) (by omega) (by omega)]
      refine ⟨_, rfl, ⟨by omega, by omega, fun x hx => ?_⟩, by omega⟩
      rw [show (k + 1).toNat = k.toNat + 1 from by omega, List.take_add_one, gt_some a0 hk] at hx
      rcases List.mem_append.1 hx with h | h
      · exact a2 x h
      · simp at h; rw [h]; omega
  · left
    rw [if_neg hk]
    refine ⟨_, rfl, .inl ⟨rfl, ?_⟩⟩
    rwa [List.take_of_length_le (by omega)] at a2
/-- The moves behind the noise, one more behind where there are enough. -/
theorem left_mv {O R M x y : List Int} {p b : Int} (h : Left O R M x p) (hy : y = if (O.length : Int) ≤ (M.length : Int) then x ++ [b] else x) {i : Int} (h0 : 0 ≤ i) (h1 : i < (O.length : Int)) (ho : gt O i = p) (hi : i ∈ R) :
    (if i < (y.length : Int) then gt y i else -1) = if i < (M.length : Int) then gt M i else -1 := by
  subst hy
  have hx := h.1
  by_cases hl : (O.length : Int) ≤ (M.length : Int)
  · rw [if_pos hl, if_pos (show i < ((x ++ [b]).length : Int) by simp; omega), if_pos (by omega), gt_app_left h0 (by omega)]
    exact h.2 i h0 (by omega) h1 ho hi
  · rw [if_neg hl, hx]
    by_cases hm : i < (M.length : Int)
    · rw [if_pos hm, if_pos hm]; exact h.2 i h0 hm h1 ho hi
    · rw [if_neg hm, if_neg hm]
theorem offs_in {n : Int} {R0 R1 : List Int} (h0 : ∀ x ∈ R0, 0 ≤ x ∧ x < n) (h1 : ∀ x ∈ R1, 0 ≤ x ∧ x < n) : offs n R0 R1 = (0, 0, 0) := by
  have e0 : R0.find? (oor n) = none := List.find?_eq_none.2 fun x hx => by simp [oor_false.2 (h0 x hx)]
  have e1 : R1.find? (oor n) = none := List.find?_eq_none.2 fun x hx => by simp [oor_false.2 (h1 x hx)]
  unfold offs off2 off1
  rw [e0, e1]
  rfl
theorem blind_some {ns : List Int} (hrow : ∀ r ∈ c.M, (r.length : Int) ≤ 9223372036854775807) (hM : (c.M.length : Int) ≤ 9223372036854775807) (z0 : c.R0.length * 8 ≤ 140737488351232) (z1 : c.R1.length * 8 ≤ 140737488351232) (z2 : c.M0.length * 8 ≤ 140737488351232) (z3 : c.M1.length * 8 ≤ 140737488351232) :
    bailifflaw16_JudgeBlind.f c.O c.P c.M c.R0 c.R1 c.M0 c.M1 ns = some true := by
  have l0 : (c.R0.length : Int) ≤ 9223372036854775807 := by omega
  have l1 : (c.R1.length : Int) ≤ 9223372036854775807 := by omega
  obtain ⟨v, e, s⟩ := judge_run (c := c) hrow hM l0 l1
  unfold bailifflaw16_JudgeBlind.f
  rw [shown16_run]
  simp only [Option.bind_some, lent_take]
  rw [e]
  simp only [Option.bind_some]
  rw [if_pos trivial, jn_inl]
  by_cases hns : (ns.length : Int) = 0
  · rw [decide_eq_true hns, if_pos rfl]
  · have hn : ns ≠ [] := fun h => hns (by rw [h]; rfl)
    obtain ⟨x0, n0, k0⟩ := noise0_run (O := c.O) (R := c.R0) (M := c.M0) (by omega) l0 hn
    obtain ⟨x1, n1, k1⟩ := noise1_run (O := c.O) (R := c.R1) (M := c.M1) (by omega) l1 hn
    have app : ∀ {ρ : Type} (M x : List Int) (f : List Int → Option ρ), M.length * 8 ≤ 140737488351232 → jn (if (c.O.length : Int) ≤ (M.length : Int) then if (0 : Int) ≤ 0 ∧ 0 < (ns.length : Int) then if (M.length + ([(gt ns 0)] : List Int).length) * 8 ≤ 140737488355328 then some (.inl (x ++ ([(gt ns 0)] : List Int))) else none else none else some (.inl x)) f = f (if (c.O.length : Int) ≤ (M.length : Int) then x ++ [gt ns 0] else x) := fun M x f hz => by
      by_cases h : (c.O.length : Int) ≤ (M.length : Int)
      · rw [if_pos h, if_pos h, if_pos ⟨by omega, by omega⟩, if_pos (by simp; omega), jn_inl]
      · rw [if_neg h, if_neg h, jn_inl]
    rw [decide_eq_false hns, if_neg (by simp), lent_run z0 z1 z2 z3]
    simp only [Option.bind_some]
    rw [n0, jn_inl, app c.M0 x0 _ z2, n1, jn_inl, app c.M1 x1 _ z3]
    obtain ⟨y0, hy0⟩ : ∃ y0, y0 = if (c.O.length : Int) ≤ (c.M0.length : Int) then x0 ++ [gt ns 0] else x0 := ⟨_, rfl⟩
    obtain ⟨y1, hy1⟩ : ∃ y1, y1 = if (c.O.length : Int) ≤ (c.M1.length : Int) then x1 ++ [gt ns 0] else x1 := ⟨_, rfl⟩
    rw [← hy0, ← hy1]
    have hmv : ∀ (R0' R1' : List Int) (p i : Int), p = 0 ∨ p = 1 → 0 ≤ i → i < (c.O.length : Int) → i ∈ c.R p → gt c.O i = p → ({ c with R0 := R0', R1 := R1', M0 := y0, M1 := y1 } : Cl).mv p i = c.mv p i := fun R0' R1' p i hp b0 b1 hi ho => by
      unfold Cl.mv Cl.A
      rcases hp with rfl | rfl
      · exact left_mv k0 hy0 b0 b1 ho (by unfold Cl.R at hi; rwa [if_pos rfl] at hi)
      · exact left_mv k1 hy1 b0 b1 ho (by unfold Cl.R at hi; rwa [if_neg (by decide)] at hi)
    obtain ⟨v1, e1, s1⟩ := judge_run (c := { c with M0 := y0, M1 := y1 }) hrow hM l0 l1
    dsimp only at e1
    have a1 : Alike c { c with M0 := y0, M1 := y1 } := ⟨rfl, rfl, rfl, fun _ => rfl, fun _ => rfl, hmv c.R0 c.R1, rfl⟩
    have hv1 : v1 = v := s1.uniq (a1.says s)
    rw [e1]
    simp only [Option.bind_some]
    obtain ⟨r0, q0, d0⟩ := all0_run (O := c.O) (R := c.R0) (u := v) (v := v1) l0
    rcases d0 with ⟨rfl, i0⟩ | rfl
    · rw [q0, jn_inl]
      obtain ⟨r1, q1, d1⟩ := all1_run (O := c.O) (R := c.R1) (u := v) (v := v1) l1
      rcases d1 with ⟨rfl, i1⟩ | rfl
      · rw [q1, jn_inl]
        obtain ⟨w0, p0, m0, t0⟩ := swap0_run (R := c.R0) l0
        obtain ⟨w1, p1, m1, t1⟩ := swap1_run (R := c.R1) l1
        have i0' : ∀ x ∈ w0, 0 ≤ x ∧ x < (c.O.length : Int) := fun x hx => i0 x (List.count_pos_iff.1 (by rw [← t0]; exact List.count_pos_iff.2 hx))
        have i1' : ∀ x ∈ w1, 0 ≤ x ∧ x < (c.O.length : Int) := fun x hx => i1 x (List.count_pos_iff.1 (by rw [← t1]; exact List.count_pos_iff.2 hx))
        obtain ⟨v2, e2, s2⟩ := judge_run (c := { c with R0 := w0, R1 := w1, M0 := y0, M1 := y1 }) hrow hM (by dsimp only; omega) (by dsimp only; omega)
        dsimp only at e2
        have a2 : Alike c { c with R0 := w0, R1 := w1, M0 := y0, M1 := y1 } := ⟨rfl, rfl, rfl, t0, t1, hmv w0 w1, by rw [offs_in i0 i1]; exact offs_in i0' i1'⟩
        have hv2 : v2 = v := s2.uniq (a2.says s)
        rw [p0, jn_inl, p1, jn_inl, hv1, if_pos (by simp), e2]
        simp only [Option.bind_some]
        rw [jn_inl, hv2]
        simp
      · rw [q1, hv1]
        simp [jn]
    · rw [q0, hv1]
      simp [jn]
theorem bailifflaw16_JudgeBlind_run {O P : List Int} {M : List (List Int)} {R0 R1 M0 M1 a2 : List Int} (_ : O.length ≤ maxLen) (_ : ∀ x ∈ O, (Lit.int .i64 x).wf = true) (_ : P.length ≤ maxLen) (_ : ∀ x ∈ P, (Lit.int .i64 x).wf = true)
    (hM : M.length ≤ maxLen) (hrow : ∀ xs ∈ M, xs.length ≤ maxLen) (_ : ∀ xs ∈ M, ∀ x ∈ xs, (Lit.int .i64 x).wf = true) (_ : R0.length ≤ maxLen) (_ : ∀ x ∈ R0, (Lit.int .i64 x).wf = true) (z0 : R0.length * 8 ≤ 140737488351232) (_ : R1.length ≤ maxLen) (_ : ∀ x ∈ R1, (Lit.int .i64 x).wf = true) (z1 : R1.length * 8 ≤ 140737488351232)
    (_ : M0.length ≤ maxLen) (_ : ∀ x ∈ M0, (Lit.int .i64 x).wf = true) (z2 : M0.length * 8 ≤ 140737488351232) (_ : M1.length ≤ maxLen) (_ : ∀ x ∈ M1, (Lit.int .i64 x).wf = true) (z3 : M1.length * 8 ≤ 140737488351232) (_ : ∀ x ∈ a2, (Lit.int .i64 x).wf = true) : bailifflaw16_JudgeBlind.f O P M R0 R1 M0 M1 a2 = some true := by
  have key : ∀ {n : Nat}, n ≤ maxLen → (n : Int) ≤ 9223372036854775807 := fun h => by unfold maxLen at h; omega
  exact blind_some (c := ⟨O, P, M, R0, R1, M0, M1⟩) (fun r hr => key (hrow r hr)) (key hM) z0 z1 z2 z3
end
end Go.Bw
