/- The judge's look at how the regions part the positions, as its model tells it. Conditions: none. -/
import Derived.Test.YtmkidaijgdgcjaaBwJudge1
set_option linter.unusedVariables false
set_option linter.unusedSimpArgs false
set_option linter.unusedSectionVars false
namespace Go.Bw
open Go Go.RowKit Tj

theorem range_jn2 {ρ : Type} {v N : Int} (f : Bool → Option ρ) : jn (if 0 ≤ v then some (.inl (decide (v < N))) else some (.inl false)) f = f (decide (0 ≤ v ∧ v < N)) := by
  by_cases h0 : 0 ≤ v
  · rw [if_pos h0, jn_inl]
    congr 1
    exact decide_eq_decide.2 ⟨fun h => ⟨h0, h⟩, fun h => h.2⟩
  · rw [if_neg h0, jn_inl, decide_eq_false (fun h => h0 h.1)]
/-- Is a number none of n positions? -/
def oor (n : Int) (x : Int) : Bool := !decide (0 ≤ x ∧ x < n)
theorem oor_false {n x : Int} : oor n x = false ↔ 0 ≤ x ∧ x < n := by unfold oor; simp
theorem oor_true {n x : Int} : oor n x = true ↔ ¬ (0 ≤ x ∧ x < n) := by unfold oor; rw [Bool.not_eq_true', decide_eq_false_iff_not]
/-- What the regions' first number that is no position makes of the verdict. -/
def off1 (n : Int) (R : List Int) : Int × Int := match R.find? (oor n) with | none => (0, 0) | some x => (19, x)
def off2 (n : Int) (e a : Int) (R : List Int) : Int × Int × Int := if e = 0 then (match R.find? (oor n) with | none => (0, 0, a) | some x => (19, 1, x)) else (e, 0, a)
theorem find_app {p : Int → Bool} {l : List Int} {x : Int} : (l ++ [x]).find? p = (match l.find? p with | some y => some y | none => if p x = true then some x else none) := by
  rw [List.find?_append]
  cases l.find? p with
  | some y => rfl
  | none =>
    show [x].find? p = _
    rw [List.find?_cons]
    cases p x <;> simp
theorem off1_app {n : Int} {l : List Int} {x : Int} : off1 n (l ++ [x]) = if (off1 n l).1 = 0 ∧ oor n x = true then (19, x) else off1 n l := by
  unfold off1
  rw [find_app]
  cases h : l.find? (oor n) with
  | some y => simp
  | none =>
    dsimp only
    by_cases hx : oor n x = true
    · simp [hx]
    · simp [hx]
theorem off1_fst {n : Int} {l : List Int} : (off1 n l).1 = 0 ∨ (off1 n l).1 = 19 := by
  unfold off1
  split <;> simp
theorem off2_app {n e a : Int} {l : List Int} {x : Int} : off2 n e a (l ++ [x]) = if (off2 n e a l).1 = 0 ∧ oor n x = true then (19, 1, x) else off2 n e a l := by
  unfold off2
  by_cases he : e = 0
  · rw [if_pos he, if_pos he, find_app]
    cases h : l.find? (oor n) with
    | some y => simp
    | none =>
      dsimp only
      by_cases hx : oor n x = true
      · simp [hx]
      · simp [hx]
  · rw [if_neg he, if_neg he]
    rw [if_neg (fun h => he h.1)]
theorem count_app {l : List Int} {x y : Int} : ((l ++ [x]).count y : Int) = (l.count y : Int) + if y = x then 1 else 0 := by
  rw [List.count_append]
  by_cases h : y = x
  · subst h; simp
  · have : ([x] : List Int).count y = 0 := List.count_eq_zero_of_not_mem (by simp [h])
    rw [this, if_neg h]
    simp
section
variable {O R : List Int}
theorem part0_run (hN : (O.length : Int) ≤ 1099511627776) (hR : (R.length : Int) ≤ 9223372036854775807) :
    ∃ c, judge_court_part.l0 O R (List.replicate (O.length : Int).toNat (0 : Int)) 0 0 0 = some (.inl (c, (off1 O.length R).1, (off1 O.length R).2)) ∧ c.length = O.length ∧ ∀ i : Int, 0 ≤ i → i < (O.length : Int) → gt c i = (R.count i : Int) := by
  have hrl : (List.replicate (O.length : Int).toNat (0 : Int)).length = O.length := by simp
  obtain ⟨r, hr, c, rfl, h1, h2⟩ := iter_meas (body := fun t_ : (List Int) × Int × Int × Int => judge_court_part.l0b O R t_.1 t_.2.1 t_.2.2.1 t_.2.2.2)
    (fun s => 0 ≤ s.2.2.2 ∧ s.2.2.2 ≤ (R.length : Int) ∧ s.1.length = O.length ∧ (∀ i : Int, 0 ≤ i → i < (O.length : Int) → gt s.1 i = ((R.take s.2.2.2.toNat).count i : Int)) ∧ (s.2.1, s.2.2.1) = off1 O.length (R.take s.2.2.2.toNat))
    (fun r => ∃ c, r = .inl (c, (off1 O.length R).1, (off1 O.length R).2) ∧ c.length = O.length ∧ ∀ i : Int, 0 ≤ i → i < (O.length : Int) → gt c i = (R.count i : Int)) (fun s => (R.length - s.2.2.2).toNat)
    (fun ⟨c, e, a, k⟩ ⟨a0, a1, a2, a3, a4⟩ => by
      dsimp only at a0 a1 a2 a3 a4 ⊢
      unfold judge_court_part.l0b
      rw [hrl]
      by_cases hk : k < (R.length : Int)
      · right
        have ht : R.take (k + 1).toNat = R.take k.toNat ++ [gt R k] := by
          rw [show (k + 1).toNat = k.toNat + 1 from by omega, List.take_add_one, gt_some a0 hk]; rfl
        have he : e = (off1 O.length (R.take k.toNat)).1 := by rw [← a4]
        rw [if_pos hk, if_pos ⟨a0, hk⟩, range_jn2, wrap64 (x := k + 1) (by omega) (by omega)]
        by_cases hx : 0 ≤ gt R k ∧ gt R k < (O.length : Int)
        · have hc := a3 _ hx.1 hx.2
          have hcl : ((R.take k.toNat).count (gt R k) : Int) ≤ k := by
            have := List.count_le_length (a := gt R k) (l := R.take k.toNat)
            simp at this
            omega
          rw [if_pos (decide_eq_true hx), if_pos hx, jn_inl, wrap64 (x := gt c (gt R k) + 1) (by omega) (by omega)]
          refine ⟨_, rfl, ⟨by dsimp only; omega, by dsimp only; omega, (st_len _ _ _).trans a2, fun i h0 h1 => ?_, ?_⟩, by dsimp only; omega⟩
          · dsimp only
            rw [ht, count_app, gt_st hx.1 (by rw [a2]; exact hx.2) h0]
            by_cases hi : i = gt R k
            · rw [if_pos hi, if_pos hi, hc, hi]
            · rw [if_neg hi, if_neg hi, a3 i h0 h1]; omega
          · dsimp only
            rw [ht, off1_app, if_neg (fun h => by have := oor_true.1 h.2; exact this hx)]
            exact a4
        · rw [decide_eq_false hx, if_neg (by simp)]
          have hcnt : ∀ i : Int, 0 ≤ i → i < (O.length : Int) → gt c i = ((R.take k.toNat ++ [gt R k]).count i : Int) := fun i h0 h1 => by
            rw [count_app, a3 i h0 h1, if_neg (fun e => hx (by rw [← e]; exact ⟨h0, h1⟩))]
            omega
          by_cases he0 : e = 0
          · rw [if_pos he0, jn_inl]
            refine ⟨_, rfl, ⟨by dsimp only; omega, by dsimp only; omega, a2, fun i h0 h1 => ?_, ?_⟩, by dsimp only; omega⟩
            · dsimp only; rw [ht]; exact hcnt i h0 h1
            · dsimp only
              rw [ht, off1_app, if_pos ⟨by rw [← he]; exact he0, oor_true.2 hx⟩]
          · rw [if_neg he0, jn_inl]
            refine ⟨_, rfl, ⟨by dsimp only; omega, by dsimp only; omega, a2, fun i h0 h1 => ?_, ?_⟩, by dsimp only; omega⟩
            · dsimp only; rw [ht]; exact hcnt i h0 h1
            · dsimp only
              rw [ht, off1_app, if_neg (fun h => he0 (by rw [he]; exact h.1))]
              exact a4
      · left
        rw [if_neg hk]
        rw [List.take_of_length_le (by omega)] at a3 a4
        refine ⟨_, rfl, c, ?_, a2, a3⟩
        rw [← a4]) (List.replicate (O.length : Int).toNat (0 : Int), 0, 0, 0) ⟨Int.le_refl _, by dsimp only; omega, hrl, fun i h0 h1 => by
          dsimp only
          unfold gt
          rw [List.getD_eq_getElem?_getD, List.getElem?_replicate]
          split <;> rfl, rfl⟩
  exact ⟨c, hr, h1, h2⟩
theorem part1_run {e0 a : Int} (hN : (O.length : Int) ≤ 1099511627776) (hR : (R.length : Int) ≤ 9223372036854775807) (ha : e0 = 0 → a = 0) :
    ∃ c, judge_court_part.l1 O R (List.replicate (O.length : Int).toNat (0 : Int)) e0 0 a 0 = some (.inl (c, (off2 O.length e0 a R).1, (off2 O.length e0 a R).2.1, (off2 O.length e0 a R).2.2)) ∧ c.length = O.length ∧ ∀ i : Int, 0 ≤ i → i < (O.length : Int) → gt c i = (R.count i : Int) := by
  have hrl : (List.replicate (O.length : Int).toNat (0 : Int)).length = O.length := by simp
  obtain ⟨r, hr, c, rfl, h1, h2⟩ := iter_meas (body := fun t_ : (List Int) × Int × Int × Int × Int => judge_court_part.l1b O R t_.1 t_.2.1 t_.2.2.1 t_.2.2.2.1 t_.2.2.2.2)
    (fun s => 0 ≤ s.2.2.2.2 ∧ s.2.2.2.2 ≤ (R.length : Int) ∧ s.1.length = O.length ∧ (∀ i : Int, 0 ≤ i → i < (O.length : Int) → gt s.1 i = ((R.take s.2.2.2.2.toNat).count i : Int)) ∧ (s.2.1, s.2.2.1, s.2.2.2.1) = off2 O.length e0 a (R.take s.2.2.2.2.toNat))
    (fun r => ∃ c, r = .inl (c, (off2 O.length e0 a R).1, (off2 O.length e0 a R).2.1, (off2 O.length e0 a R).2.2) ∧ c.length = O.length ∧ ∀ i : Int, 0 ≤ i → i < (O.length : Int) → gt c i = (R.count i : Int)) (fun s => (R.length - s.2.2.2.2).toNat)
    (fun ⟨c, e, p, q, k⟩ ⟨a0, a1, a2, a3, a4⟩ => by
      dsimp only at a0 a1 a2 a3 a4 ⊢
      unfold judge_court_part.l1b
      rw [hrl]
      by_cases hk : k < (R.length : Int)
      · right
        have ht : R.take (k + 1).toNat = R.take k.toNat ++ [gt R k] := by
          rw [show (k + 1).toNat = k.toNat + 1 from by omega, List.take_add_one, gt_some a0 hk]; rfl
        have he : e = (off2 O.length e0 a (R.take k.toNat)).1 := by rw [← a4]
        rw [if_pos hk, if_pos ⟨a0, hk⟩, range_jn2, wrap64 (x := k + 1) (by omega) (by omega)]
        by_cases hx : 0 ≤ gt R k ∧ gt R k < (O.length : Int)
        · have hc := a3 _ hx.1 hx.2
          have hcl : ((R.take k.toNat).count (gt R k) : Int) ≤ k := by
            have := List.count_le_length (a := gt R k) (l := R.take k.toNat)
            simp at this
            omega
          rw [if_pos (decide_eq_true hx), if_pos hx, jn_inl, wrap64 (x := gt c (gt R k) + 1) (by omega) (by omega)]
          refine ⟨_, rfl, ⟨by dsimp only; omega, by dsimp only; omega, (st_len _ _ _).trans a2, fun i h0 h1 => ?_, ?_⟩, by dsimp only; omega⟩
          · dsimp only
            rw [ht, count_app, gt_st hx.1 (by rw [a2]; exact hx.2) h0]
            by_cases hi : i = gt R k
            · rw [if_pos hi, if_pos hi, hc, hi]
            · rw [if_neg hi, if_neg hi, a3 i h0 h1]; omega
          · dsimp only
            rw [ht, off2_app, if_neg (fun h => by have := oor_true.1 h.2; exact this hx)]
            exact a4
        · rw [decide_eq_false hx, if_neg (by simp)]
          have hcnt : ∀ i : Int, 0 ≤ i → i < (O.length : Int) → gt c i = ((R.take k.toNat ++ [gt R k]).count i : Int) := fun i h0 h1 => by
            rw [count_app, a3 i h0 h1, if_neg (fun e => hx (by rw [← e]; exact ⟨h0, h1⟩))]
            omega
          by_cases he0 : e = 0
          · rw [if_pos he0, jn_inl]
            refine ⟨_, rfl, ⟨by dsimp only; omega, by dsimp only; omega, a2, fun i h0 h1 => ?_, ?_⟩, by dsimp only; omega⟩
            · dsimp only; rw [ht]; exact hcnt i h0 h1
            · dsimp only
              rw [ht, off2_app, if_pos ⟨by rw [← he]; exact he0, oor_true.2 hx⟩]
          · rw [if_neg he0, jn_inl]
            refine ⟨_, rfl, ⟨by dsimp only; omega, by dsimp only; omega, a2, fun i h0 h1 => ?_, ?_⟩, by dsimp only; omega⟩
            · dsimp only; rw [ht]; exact hcnt i h0 h1
            · dsimp only
              rw [ht, off2_app, if_neg (fun h => he0 (by rw [he]; exact h.1))]
              exact a4
      · left
        rw [if_neg hk]
        rw [List.take_of_length_le (by omega)] at a3 a4
        refine ⟨_, rfl, c, ?_, a2, a3⟩
        rw [← a4]) (List.replicate (O.length : Int).toNat (0 : Int), e0, 0, a, 0) ⟨Int.le_refl _, by dsimp only; omega, hrl, fun i h0 h1 => by
          dsimp only
          unfold gt
          rw [List.getD_eq_getElem?_getD, List.getElem?_replicate]
          split <;> rfl, by
          dsimp only
          unfold off2
          by_cases h : e0 = 0
          · rw [if_pos h]; simp [h]
          · rw [if_neg h]⟩
  exact ⟨c, hr, h1, h2⟩
/-- The first of n positions of which something holds. -/
def Fst (n : Int) (p : Int → Prop) (i : Int) : Prop := (0 ≤ i ∧ i < n) ∧ p i ∧ ∀ j, 0 ≤ j → j < i → ¬ p j
theorem Fst.uniq {n : Int} {p : Int → Prop} {i j : Int} (h : Fst n p i) (h' : Fst n p j) : i = j := by
  by_cases h1 : i < j
  · exact absurd h.2.1 (h'.2.2 i h.1.1 h1)
  · by_cases h2 : j < i
    · exact absurd h'.2.1 (h.2.2 j h'.1.1 h2)
    · omega
theorem Fst.same {n : Int} {p q : Int → Prop} {i : Int} (h : Fst n p i) (e : ∀ j, 0 ≤ j → j < n → (p j ↔ q j)) : Fst n q i :=
  ⟨h.1, (e i h.1.1 h.1.2).1 h.2.1, fun j h0 h1 hq => h.2.2 j h0 h1 ((e j h0 (by have := h.1.2; omega)).2 hq)⟩
theorem fst_or (n : Int) (p : Int → Prop) : (∃ i, Fst n p i) ∨ ∀ i, 0 ≤ i → i < n → ¬ p i := by
  have key : ∀ k : Nat, (k : Int) ≤ n → (∃ i, Fst n p i) ∨ ∀ i, 0 ≤ i → i < (k : Int) → ¬ p i := by
    intro k
    induction k with
    | zero => intro _; right; intro i h0 h1; omega
    | succ k ih =>
      intro hk
      rcases ih (by omega) with h | h
      · exact .inl h
      · by_cases hp : p k
        · exact .inl ⟨k, ⟨by omega, by omega⟩, hp, h⟩
        · right
          intro i h0 h1
          by_cases hi : i = k
          · subst hi; exact hp
          · exact h i h0 (by omega)
  by_cases hn : 0 ≤ n
  · have := key n.toNat (by omega)
    rwa [show ((n.toNat : Nat) : Int) = n from by omega] at this
  · right
    intro i h0 h1
    omega
/-- A position that does not stand in just one region, just once. -/
def Odd (R0 R1 : List Int) (i : Int) : Prop := ¬ (R0.count i : Int) + (R1.count i : Int) = 1
theorem part2_run {R0 R1 c0 c1 : List Int} (hN : (O.length : Int) ≤ 1099511627776) (h0 : c0.length = O.length) (h1 : c1.length = O.length) (l0 : (R0.length : Int) ≤ 9223372036854775807) (l1 : (R1.length : Int) ≤ 9223372036854775807)
    (g0 : ∀ i : Int, 0 ≤ i → i < (O.length : Int) → gt c0 i = (R0.count i : Int)) (g1 : ∀ i : Int, 0 ≤ i → i < (O.length : Int) → gt c1 i = (R1.count i : Int)) :
    ∃ r, judge_court_part.l2 O c0 c1 0 = some r ∧ ((r = .inl () ∧ ∀ i : Int, 0 ≤ i → i < (O.length : Int) → ¬ Odd R0 R1 i) ∨ (∃ i, r = .inr (c1, c0, 19, 0, i) ∧ Fst O.length (Odd R0 R1) i)) := by
  have hrl : (List.replicate (O.length : Int).toNat (0 : Int)).length = O.length := by simp
  refine iter_meas (body := fun t_ : Int => judge_court_part.l2b O c0 c1 t_)
    (fun k => 0 ≤ k ∧ k ≤ (O.length : Int) ∧ ∀ j : Int, 0 ≤ j → j < k → ¬ Odd R0 R1 j)
    (fun r => (r = .inl () ∧ ∀ i : Int, 0 ≤ i → i < (O.length : Int) → ¬ Odd R0 R1 i) ∨ (∃ i, r = .inr (c1, c0, 19, 0, i) ∧ Fst O.length (Odd R0 R1) i)) (fun k => (O.length - k).toNat)
    (fun k ⟨b0, b1, b2⟩ => ?_) 0 ⟨Int.le_refl _, by omega, fun j a b => by omega⟩
  unfold judge_court_part.l2b
  rw [hrl]
  by_cases hk : k < (O.length : Int)
  · have e0 := g0 k b0 hk
    have e1 := g1 k b0 hk
    have k0 := List.count_le_length (a := k) (l := R0)
    have k1 := List.count_le_length (a := k) (l := R1)
    rw [if_pos hk, if_pos ⟨b0, hk⟩, e0, e1]
    have hw : IntKind.i64.wrap ((R0.count k : Int) + (R1.count k : Int)) = 1 ↔ ¬ Odd R0 R1 k := by
      unfold Odd
      rw [Decidable.not_not]
      by_cases hs : (R0.count k : Int) + (R1.count k : Int) ≤ 9223372036854775807
      · rw [wrap64 (by omega) hs]
      · simp only [IntKind.wrap, IntKind.bits, IntKind.signed]
        constructor
        · intro h
          exfalso
          have : IntKind.i64.bits = 64 := rfl
          simp at h
          omega
        · intro h; omega
    by_cases hodd : Odd R0 R1 k
    · left
      rw [if_neg (fun h => hw.1 h hodd)]
      exact ⟨_, rfl, .inr ⟨k, rfl, ⟨b0, hk⟩, hodd, b2⟩⟩
    · right
      rw [if_pos (hw.2 hodd), wrap64 (x := k + 1) (by omega) (by omega)]
      refine ⟨_, rfl, ⟨by omega, by omega, fun j a b => ?_⟩, by omega⟩
      by_cases hj : j = k
      · subst hj; exact hodd
      · exact b2 j a (by omega)
  · left
    rw [if_neg hk]
    exact ⟨_, rfl, .inl ⟨rfl, fun i a b => b2 i a (by omega)⟩⟩
/-- The offence of numbers that are no positions. -/
def offs (n : Int) (R0 R1 : List Int) : Int × Int × Int := off2 n (off1 n R0).1 (off1 n R0).2 R1
theorem part_run {P : List Int} {M : List (List Int)} {R0 R1 M0 M1 x y : List Int} (hN : (O.length : Int) ≤ 1099511627776) (l0 : (R0.length : Int) ≤ 9223372036854775807) (l1 : (R1.length : Int) ≤ 9223372036854775807) :
    ∃ c0 c1 v, judge_court_part.f O P M R0 R1 M0 M1 x y = some (c1, c0, v) ∧ c0.length = O.length ∧ c1.length = O.length ∧ (∀ i : Int, 0 ≤ i → i < (O.length : Int) → gt c0 i = (R0.count i : Int)) ∧ (∀ i : Int, 0 ≤ i → i < (O.length : Int) → gt c1 i = (R1.count i : Int)) ∧
      ((∃ i, v = (19, 0, i) ∧ Fst O.length (Odd R0 R1) i) ∨ ((∀ i : Int, 0 ≤ i → i < (O.length : Int) → ¬ Odd R0 R1 i) ∧ v = offs O.length R0 R1)) := by
  obtain ⟨c0, e0, k0, g0⟩ := part0_run (R := R0) hN l0
  obtain ⟨c1, e1, k1, g1⟩ := part1_run (R := R1) (e0 := (off1 O.length R0).1) (a := (off1 O.length R0).2) hN l1 (fun h => by
    unfold off1 at h ⊢
    split at h
    · rfl
    · simp at h)
  obtain ⟨r, e2, hq⟩ := part2_run (O := O) hN k0 k1 l0 l1 g0 g1
  unfold judge_court_part.f
  rw [if_pos ⟨by omega, by omega⟩, e0, jn_inl]
  dsimp only
  rw [e1, jn_inl]
  dsimp only
  rw [e2]
  rcases hq with ⟨rfl, hq⟩ | ⟨i, rfl, hq⟩
  · rw [jn_inl]
    exact ⟨c0, c1, _, rfl, k0, k1, g0, g1, .inr ⟨hq, rfl⟩⟩
  · exact ⟨c0, c1, _, rfl, k0, k1, g0, g1, .inl ⟨i, rfl, hq⟩⟩
end
end Go.Bw
