/- JudgeSpoilt's model comes to true, whatever comes in. Conditions: none. -/
import Derived.Test.YtmkidaijgdgcjaaBwShown16
import Derived.Test.YtmkidaijgdgcjaaBwSpoi
set_option linter.unusedVariables false
set_option linter.unusedSimpArgs false
set_option linter.unusedSectionVars false
namespace Go.Bw
open Go Go.RowKit Tj

/-- A list without a number. -/
def less1 (l : List Int) (w : Int) : List Int := l.filter fun x => !decide (x = w)
theorem less1_app {l : List Int} {w x : Int} : less1 (l ++ [x]) w = if x = w then less1 l w else less1 l w ++ [x] := by
  unfold less1
  rw [List.filter_append]
  by_cases h : x = w
  · rw [if_pos h]; simp [h]
  · rw [if_neg h]; simp [h]
theorem less1_count {l : List Int} {w j : Int} : (less1 l w).count j = if j = w then 0 else l.count j := by
  unfold less1
  by_cases h : j = w
  · rw [if_pos h]
    exact List.count_eq_zero_of_not_mem (by subst h; simp)
  · rw [if_neg h]
    exact List.count_filter (by simp [h])
theorem less1_len (l : List Int) (w : Int) : (less1 l w).length ≤ l.length := List.length_filter_le _ _
theorem offs_zero {n : Int} {R0 R1 : List Int} : (offs n R0 R1).1 = 0 ↔ (∀ x ∈ R0, 0 ≤ x ∧ x < n) ∧ ∀ x ∈ R1, 0 ≤ x ∧ x < n := by
  unfold offs off2 off1
  cases h0 : R0.find? (oor n) with
  | some y =>
    have hy := List.find?_some h0
    have hm := List.mem_of_find?_eq_some h0
    simp
    intro h
    exact absurd (h y hm) (oor_true.1 hy)
  | none =>
    rw [List.find?_eq_none] at h0
    have h0' : ∀ x ∈ R0, 0 ≤ x ∧ x < n := fun x hx => oor_false.1 (by simpa using h0 x hx)
    cases h1 : R1.find? (oor n) with
    | some y =>
      have hy := List.find?_some h1
      have hm := List.mem_of_find?_eq_some h1
      constructor
      · intro h; simp at h
      · rintro ⟨_, h⟩; exact absurd (h y hm) (oor_true.1 hy)
    | none =>
      rw [List.find?_eq_none] at h1
      have h1' : ∀ x ∈ R1, 0 ≤ x ∧ x < n := fun x hx => oor_false.1 (by simpa using h1 x hx)
      simp
      exact ⟨h0', h1'⟩
theorem few : ∀ (n : Nat) {l : List Int}, (∀ x ∈ l, 0 ≤ x ∧ x < (n : Int)) → (∀ x, l.count x ≤ 1) → l.length ≤ n
  | 0, l, h, _ => by
    match l with
    | [] => simp
    | x :: l => have := h x (by simp); omega
  | n + 1, l, h, hc => by
    have h1 := few n (l := less1 l n) (fun x hx => by
      unfold less1 at hx
      rw [List.mem_filter] at hx
      have := h x hx.1
      have h2 : x ≠ n := by simpa using hx.2
      omega) (fun x => by rw [less1_count]; have := hc x; split <;> omega)
    have h2 : l.length = (less1 l n).length + l.count (n : Int) := by
      clear h hc h1
      induction l with
      | nil => rfl
      | cons x l ih =>
        unfold less1 at ih ⊢
        by_cases hx : x = n
        · subst hx; simp; omega
        · have : (x :: l).count (n : Int) = l.count (n : Int) := List.count_cons_of_ne hx
          rw [this]
          simp [hx]
          omega
    have := hc n
    omega
section
variable {c : Cl}
theorem Cl.Acc.inr (a : c.Acc) : (∀ x ∈ c.R0, 0 ≤ x ∧ x < (c.O.length : Int)) ∧ ∀ x ∈ c.R1, 0 ≤ x ∧ x < (c.O.length : Int) := offs_zero.1 a.off
theorem Cl.Acc.sum (a : c.Acc) {i : Int} (h0 : 0 ≤ i) (h1 : i < (c.O.length : Int)) : c.R0.count i + c.R1.count i = 1 := by
  have := a.part i h0 h1
  unfold Odd at this
  omega
theorem Cl.Acc.len (a : c.Acc) : c.R0.length ≤ 200 ∧ c.R1.length ≤ 200 := by
  have hm := a.gr.many
  have hl := a.gr.lo
  have key : ∀ l : List Int, (∀ x ∈ l, 0 ≤ x ∧ x < (c.O.length : Int)) → (∀ i : Int, 0 ≤ i → i < (c.O.length : Int) → l.count i ≤ 1) → l.length ≤ 200 := fun l h1 h2 => by
    have := few c.O.length h1 (fun x => by
      by_cases hx : 0 ≤ x ∧ x < (c.O.length : Int)
      · exact h2 x hx.1 hx.2
      · rw [List.count_eq_zero_of_not_mem (fun h => hx (h1 x h))]; omega)
    omega
  exact ⟨key _ a.inr.1 fun i h0 h1 => by have := a.sum h0 h1; omega, key _ a.inr.2 fun i h0 h1 => by have := a.sum h0 h1; omega⟩
theorem odd_of {R0 R1 R0' R1' : List Int} {n w : Int} (hs : ∀ i : Int, 0 ≤ i → i < n → R0.count i + R1.count i = 1) (h0 : 0 ≤ w) (h1 : w < n) (hw : R0'.count w + R1'.count w ≠ 1) (he : ∀ j : Int, j ≠ w → R0'.count j + R1'.count j = R0.count j + R1.count j) : Fst n (Odd R0' R1') w := by
  refine ⟨⟨h0, h1⟩, ?_, fun j a b => ?_⟩
  · unfold Odd; omega
  · have := he j (by omega)
    have := hs j a (by omega)
    unfold Odd
    omega
theorem spoilt0 (a : c.Acc) {w : Int} (h0 : 0 ≤ w) (h1 : w < (c.O.length : Int)) (hw : w ∈ c.R0) :
    (∀ v, ({ c with R0 := less1 c.R0 w } : Cl).Says v → v = (19, 0, w)) ∧ (∀ v, ({ c with R0 := c.R0 ++ [w] } : Cl).Says v → v = (19, 0, w)) ∧ ∀ v, ({ c with R0 := less1 c.R0 w, R1 := c.R1 ++ [w] } : Cl).Says v → v.1 ≠ 0 := by
  have hs := fun (i : Int) => a.sum (i := i)
  have hsw := hs w h0 h1
  have hcw : 0 < c.R0.count w := List.count_pos_iff.2 hw
  refine ⟨fun v h => h.uniq (.part w a.gr (odd_of (R0 := c.R0) (R1 := c.R1) hs h0 h1 ?_ fun j hj => ?_)), fun v h => h.uniq (.part w a.gr (odd_of (R0 := c.R0) (R1 := c.R1) hs h0 h1 ?_ fun j hj => ?_)), fun v h hv => ?_⟩
  · dsimp only
    rw [less1_count, if_pos rfl]
    omega
  · dsimp only
    rw [less1_count, if_neg hj]
  · dsimp only
    rw [List.count_append]
    simp
    omega
  · dsimp only
    rw [List.count_append, List.count_eq_zero_of_not_mem (l := [w]) (by simp [hj])]
    omega
  · have a' := h.acc.1 hv
    have hR : c.R 0 = c.R0 := by unfold Cl.R; rw [if_pos rfl]
    have hR' : ({ c with R0 := less1 c.R0 w, R1 := c.R1 ++ [w] } : Cl).R 1 = c.R1 ++ [w] := by unfold Cl.R; rw [if_neg (by decide)]
    refine clash (c := c) (c' := { c with R0 := less1 c.R0 w, R1 := c.R1 ++ [w] }) rfl rfl rfl (p := 0) (q := 1) (by decide) a a' h0 h1 (by rw [hR]; exact hw) (by rw [hR']; simp) fun m m0 m1 hm hm' => ?_
    rw [hR] at hm
    rw [hR'] at hm'
    have := hs m m0 m1
    have p0 : 0 < c.R0.count m := List.count_pos_iff.2 hm
    rcases List.mem_append.1 hm' with h | h
    · have p1 : 0 < c.R1.count m := List.count_pos_iff.2 h
      omega
    · simpa using h
theorem spoilt1 (a : c.Acc) {w : Int} (h0 : 0 ≤ w) (h1 : w < (c.O.length : Int)) (hw : w ∈ c.R1) :
    (∀ v, ({ c with R1 := less1 c.R1 w } : Cl).Says v → v = (19, 0, w)) ∧ (∀ v, ({ c with R1 := c.R1 ++ [w] } : Cl).Says v → v = (19, 0, w)) ∧ ∀ v, ({ c with R1 := less1 c.R1 w, R0 := c.R0 ++ [w] } : Cl).Says v → v.1 ≠ 0 := by
  have hs := fun (i : Int) => a.sum (i := i)
  have hsw := hs w h0 h1
  have hcw : 0 < c.R1.count w := List.count_pos_iff.2 hw
  refine ⟨fun v h => h.uniq (.part w a.gr (odd_of (R0 := c.R0) (R1 := c.R1) hs h0 h1 ?_ fun j hj => ?_)), fun v h => h.uniq (.part w a.gr (odd_of (R0 := c.R0) (R1 := c.R1) hs h0 h1 ?_ fun j hj => ?_)), fun v h hv => ?_⟩
  · dsimp only
    rw [less1_count, if_pos rfl]
    omega
  · dsimp only
    rw [less1_count, if_neg hj]
  · dsimp only
    rw [List.count_append]
    simp
    omega
  · dsimp only
    rw [List.count_append, List.count_eq_zero_of_not_mem (l := [w]) (by simp [hj])]
    omega
  · have a' := h.acc.1 hv
    have hR : c.R 1 = c.R1 := by unfold Cl.R; rw [if_neg (by decide)]
    have hR' : ({ c with R1 := less1 c.R1 w, R0 := c.R0 ++ [w] } : Cl).R 0 = c.R0 ++ [w] := by unfold Cl.R; rw [if_pos rfl]
    refine clash (c := c) (c' := { c with R1 := less1 c.R1 w, R0 := c.R0 ++ [w] }) rfl rfl rfl (p := 1) (q := 0) (by decide) a a' h0 h1 (by rw [hR]; exact hw) (by rw [hR']; simp) fun m m0 m1 hm hm' => ?_
    rw [hR] at hm
    rw [hR'] at hm'
    have := hs m m0 m1
    have p0 : 0 < c.R1.count m := List.count_pos_iff.2 hm
    rcases List.mem_append.1 hm' with h | h
    · have p1 : 0 < c.R0.count m := List.count_pos_iff.2 h
      omega
    · simpa using h
theorem rest0_run {O R : List Int} {a2 : Int} (hR : R.length ≤ 1000) : bailifflaw16_JudgeSpoilt.l0 O R a2 [] 0 = some (.inl (less1 R (Int.tmod (IntKind.i64.wrap (0 - (IntKind.i64.wrap (a2 + 1)))) (O.length : Int)))) := by
  obtain ⟨r, hr, rfl⟩ := iter_meas (body := fun t_ : (List Int) × Int => bailifflaw16_JudgeSpoilt.l0b O R a2 t_.1 t_.2)
    (fun s => 0 ≤ s.2 ∧ s.2 ≤ (R.length : Int) ∧ s.1 = less1 (R.take s.2.toNat) (Int.tmod (IntKind.i64.wrap (0 - (IntKind.i64.wrap (a2 + 1)))) (O.length : Int)))
    (fun r => r = .inl (less1 R (Int.tmod (IntKind.i64.wrap (0 - (IntKind.i64.wrap (a2 + 1)))) (O.length : Int)))) (fun s => (R.length - s.2).toNat)
    (fun ⟨q, k⟩ ⟨a0, a1, a3⟩ => by
      dsimp only at a0 a1 a3 ⊢
      unfold bailifflaw16_JudgeSpoilt.l0b
      by_cases hk : k < (R.length : Int)
      · right
        have ht : R.take (k + 1).toNat = R.take k.toNat ++ [gt R k] := by
          rw [show (k + 1).toNat = k.toNat + 1 from by omega, List.take_add_one, gt_some a0 hk]; rfl
        have hql : q.length ≤ 1000 := by
          have := less1_len (R.take k.toNat) (Int.tmod (IntKind.i64.wrap (0 - (IntKind.i64.wrap (a2 + 1)))) (O.length : Int))
          rw [← a3] at this
          simp at this
          omega
        rw [if_pos hk, if_pos ⟨a0, hk⟩, wrap64 (x := k + 1) (by omega) (by omega)]
        by_cases he : gt R k = Int.tmod (IntKind.i64.wrap (0 - (IntKind.i64.wrap (a2 + 1)))) (O.length : Int)
        · rw [if_pos he, jn_inl]
          refine ⟨_, rfl, ⟨by dsimp only; omega, by dsimp only; omega, ?_⟩, by dsimp only; omega⟩
          dsimp only
          rw [ht, less1_app, if_pos he, a3]
        · rw [if_neg he, if_pos (by simp; omega), jn_inl]
          refine ⟨_, rfl, ⟨by dsimp only; omega, by dsimp only; omega, ?_⟩, by dsimp only; omega⟩
          dsimp only
          rw [ht, less1_app, if_neg he, a3]
      · left
        rw [if_neg hk]
        rw [List.take_of_length_le (by omega)] at a3
        exact ⟨_, rfl, by rw [a3]⟩) ([], 0) ⟨Int.le_refl _, by dsimp only; omega, rfl⟩
  exact hr
theorem rest1_run {O R : List Int} {a2 : Int} (hR : R.length ≤ 1000) : bailifflaw16_JudgeSpoilt.l1 O R a2 [] 0 = some (.inl (less1 R (Int.tmod (IntKind.i64.wrap (0 - (IntKind.i64.wrap (a2 + 1)))) (O.length : Int)))) := by
  obtain ⟨r, hr, rfl⟩ := iter_meas (body := fun t_ : (List Int) × Int => bailifflaw16_JudgeSpoilt.l1b O R a2 t_.1 t_.2)
    (fun s => 0 ≤ s.2 ∧ s.2 ≤ (R.length : Int) ∧ s.1 = less1 (R.take s.2.toNat) (Int.tmod (IntKind.i64.wrap (0 - (IntKind.i64.wrap (a2 + 1)))) (O.length : Int)))
    (fun r => r = .inl (less1 R (Int.tmod (IntKind.i64.wrap (0 - (IntKind.i64.wrap (a2 + 1)))) (O.length : Int)))) (fun s => (R.length - s.2).toNat)
    (fun ⟨q, k⟩ ⟨a0, a1, a3⟩ => by
      dsimp only at a0 a1 a3 ⊢
      unfold bailifflaw16_JudgeSpoilt.l1b
      by_cases hk : k < (R.length : Int)
      · right
        have ht : R.take (k + 1).toNat = R.take k.toNat ++ [gt R k] := by
          rw [show (k + 1).toNat = k.toNat + 1 from by omega, List.take_add_one, gt_some a0 hk]; rfl
        have hql : q.length ≤ 1000 := by
          have := less1_len (R.take k.toNat) (Int.tmod (IntKind.i64.wrap (0 - (IntKind.i64.wrap (a2 + 1)))) (O.length : Int))
          rw [← a3] at this
          simp at this
          omega
        rw [if_pos hk, if_pos ⟨a0, hk⟩, wrap64 (x := k + 1) (by omega) (by omega)]
        by_cases he : gt R k = Int.tmod (IntKind.i64.wrap (0 - (IntKind.i64.wrap (a2 + 1)))) (O.length : Int)
        · rw [if_pos he, jn_inl]
          refine ⟨_, rfl, ⟨by dsimp only; omega, by dsimp only; omega, ?_⟩, by dsimp only; omega⟩
          dsimp only
          rw [ht, less1_app, if_pos he, a3]
        · rw [if_neg he, if_pos (by simp; omega), jn_inl]
          refine ⟨_, rfl, ⟨by dsimp only; omega, by dsimp only; omega, ?_⟩, by dsimp only; omega⟩
          dsimp only
          rw [ht, less1_app, if_neg he, a3]
      · left
        rw [if_neg hk]
        rw [List.take_of_length_le (by omega)] at a3
        exact ⟨_, rfl, by rw [a3]⟩) ([], 0) ⟨Int.le_refl _, by dsimp only; omega, rfl⟩
  exact hr
theorem rest2_run {O R : List Int} {a2 : Int} (hR : R.length ≤ 1000) : bailifflaw16_JudgeSpoilt.l2 O R a2 [] 0 = some (.inl (less1 R (Int.tmod a2 (O.length : Int)))) := by
  obtain ⟨r, hr, rfl⟩ := iter_meas (body := fun t_ : (List Int) × Int => bailifflaw16_JudgeSpoilt.l2b O R a2 t_.1 t_.2)
    (fun s => 0 ≤ s.2 ∧ s.2 ≤ (R.length : Int) ∧ s.1 = less1 (R.take s.2.toNat) (Int.tmod a2 (O.length : Int)))
    (fun r => r = .inl (less1 R (Int.tmod a2 (O.length : Int)))) (fun s => (R.length - s.2).toNat)
    (fun ⟨q, k⟩ ⟨a0, a1, a3⟩ => by
      dsimp only at a0 a1 a3 ⊢
      unfold bailifflaw16_JudgeSpoilt.l2b
      by_cases hk : k < (R.length : Int)
      · right
        have ht : R.take (k + 1).toNat = R.take k.toNat ++ [gt R k] := by
          rw [show (k + 1).toNat = k.toNat + 1 from by omega, List.take_add_one, gt_some a0 hk]; rfl
        have hql : q.length ≤ 1000 := by
          have := less1_len (R.take k.toNat) (Int.tmod a2 (O.length : Int))
          rw [← a3] at this
          simp at this
          omega
        rw [if_pos hk, if_pos ⟨a0, hk⟩, wrap64 (x := k + 1) (by omega) (by omega)]
        by_cases he : gt R k = Int.tmod a2 (O.length : Int)
        · rw [if_pos he, jn_inl]
          refine ⟨_, rfl, ⟨by dsimp only; omega, by dsimp only; omega, ?_⟩, by dsimp only; omega⟩
          dsimp only
          rw [ht, less1_app, if_pos he, a3]
        · rw [if_neg he, if_pos (by simp; omega), jn_inl]
          refine ⟨_, rfl, ⟨by dsimp only; omega, by dsimp only; omega, ?_⟩, by dsimp only; omega⟩
          dsimp only
          rw [ht, less1_app, if_neg he, a3]
      · left
        rw [if_neg hk]
        rw [List.take_of_length_le (by omega)] at a3
        exact ⟨_, rfl, by rw [a3]⟩) ([], 0) ⟨Int.le_refl _, by dsimp only; omega, rfl⟩
  exact hr
theorem rest3_run {O R : List Int} {a2 : Int} (hR : R.length ≤ 1000) : bailifflaw16_JudgeSpoilt.l3 O R a2 [] 0 = some (.inl (less1 R (Int.tmod a2 (O.length : Int)))) := by
  obtain ⟨r, hr, rfl⟩ := iter_meas (body := fun t_ : (List Int) × Int => bailifflaw16_JudgeSpoilt.l3b O R a2 t_.1 t_.2)
    (fun s => 0 ≤ s.2 ∧ s.2 ≤ (R.length : Int) ∧ s.1 = less1 (R.take s.2.toNat) (Int.tmod a2 (O.length : Int)))
    (fun r => r = .inl (less1 R (Int.tmod a2 (O.length : Int)))) (fun s => (R.length - s.2).toNat)
    (fun ⟨q, k⟩ ⟨a0, a1, a3⟩ => by
      dsimp only at a0 a1 a3 ⊢
      unfold bailifflaw16_JudgeSpoilt.l3b
      by_cases hk : k < (R.length : Int)
      · right
        have ht : R.take (k + 1).toNat = R.take k.toNat ++ [gt R k] := by
          rw [show (k + 1).toNat = k.toNat + 1 from by omega, List.take_add_one, gt_some a0 hk]; rfl
        have hql : q.length ≤ 1000 := by
          have := less1_len (R.take k.toNat) (Int.tmod a2 (O.length : Int))
          rw [← a3] at this
          simp at this
          omega
        rw [if_pos hk, if_pos ⟨a0, hk⟩, wrap64 (x := k + 1) (by omega) (by omega)]
        by_cases he : gt R k = Int.tmod a2 (O.length : Int)
        · rw [if_pos he, jn_inl]
          refine ⟨_, rfl, ⟨by dsimp only; omega, by dsimp only; omega, ?_⟩, by dsimp only; omega⟩
          dsimp only
          rw [ht, less1_app, if_pos he, a3]
        · rw [if_neg he, if_pos (by simp; omega), jn_inl]
          refine ⟨_, rfl, ⟨by dsimp only; omega, by dsimp only; omega, ?_⟩, by dsimp only; omega⟩
          dsimp only
          rw [ht, less1_app, if_neg he, a3]
      · left
        rw [if_neg hk]
        rw [List.take_of_length_le (by omega)] at a3
        exact ⟨_, rfl, by rw [a3]⟩) ([], 0) ⟨Int.le_refl _, by dsimp only; omega, rfl⟩
  exact hr
theorem spoilt_some {a2 : Int} (hrow : ∀ r ∈ c.M, (r.length : Int) ≤ 9223372036854775807) (hM : (c.M.length : Int) ≤ 9223372036854775807) (l0 : (c.R0.length : Int) ≤ 9223372036854775807) (l1 : (c.R1.length : Int) ≤ 9223372036854775807) (h2 : -9223372036854775808 ≤ a2 ∧ a2 ≤ 9223372036854775807) :
    bailifflaw16_JudgeSpoilt.f c.O c.P c.M c.R0 c.R1 c.M0 c.M1 a2 = some true := by
  obtain ⟨v, e, s⟩ := judge_run (c := c) hrow hM l0 l1
  unfold bailifflaw16_JudgeSpoilt.f
  rw [shown16_run]
  simp only [Option.bind_some]
  rw [e]
  simp only [Option.bind_some]
  rw [if_pos trivial, jn_inl]
  by_cases hv : v.1 = 0
  · have acc := s.acc.1 hv
    have hlen := acc.len
    have hpos : 0 < (c.O.length : Int) := by have := acc.gr.lo; have := acc.gr.pos; omega
    rw [decide_eq_true hv, if_neg (by simp)]
    by_cases hneg : a2 < 0
    · rw [if_pos hneg, if_pos (by omega), count_run l0]
      simp only [Option.bind_some]
      have hwv : IntKind.i64.wrap (0 - (IntKind.i64.wrap (a2 + 1))) = -(a2 + 1) := by
        rw [wrap64 (x := a2 + 1) (by omega) (by omega), wrap64 (by omega) (by omega)]; omega
      obtain ⟨w, hw⟩ : ∃ w, Int.tmod (IntKind.i64.wrap (0 - (IntKind.i64.wrap (a2 + 1)))) (c.O.length : Int) = w := ⟨_, rfl⟩
      have h0 : 0 ≤ w := by rw [← hw, hwv]; exact Int.tmod_nonneg _ (by omega)
      have h1 : w < (c.O.length : Int) := by rw [← hw]; exact Int.tmod_lt_of_pos _ hpos
      rw [hw]
      by_cases hc : (0 : Int) < (c.R0.count w : Int)
      · rw [if_pos hc]
        have hin : w ∈ c.R0 := List.count_pos_iff.1 (by omega)
        obtain ⟨s1, s2, s3⟩ := spoilt0 acc h0 h1 hin
        obtain ⟨v1, j1, k1⟩ := judge_run (c := { c with R0 := less1 c.R0 w, R1 := c.R1 ++ [w] }) hrow hM (by dsimp only; have := less1_len c.R0 w; omega) (by dsimp only; simp; omega)
        obtain ⟨v2, j2, k2⟩ := judge_run (c := { c with R0 := less1 c.R0 w }) hrow hM (by dsimp only; have := less1_len c.R0 w; omega) (by dsimp only; omega)
        obtain ⟨v3, j3, k3⟩ := judge_run (c := { c with R0 := c.R0 ++ [w] }) hrow hM (by dsimp only; simp; omega) (by dsimp only; omega)
        rw [s1 _ k2] at j2
        rw [s2 _ k3] at j3
        have n1 := s3 _ k1
        dsimp only at j1 j2 j3
        rw [rest0_run (by omega), jn_inl, hw]
        simp only [List.nil_append]
        rw [if_pos (by simp; omega), if_pos (by simp; omega), if_pos (by simp; omega), if_pos (by simp; omega), j1]
        simp only [Option.bind_some]
        rw [if_neg n1, j2]
        simp only [Option.bind_some]
        rw [jn_inl, if_pos (by simp), j3]
        simp only [Option.bind_some]
        rw [jn_inl]
        simp
      · rw [if_neg hc]
        have hin : w ∈ c.R1 := List.count_pos_iff.1 (by have := acc.sum h0 h1; omega)
        obtain ⟨s1, s2, s3⟩ := spoilt1 acc h0 h1 hin
        obtain ⟨v1, j1, k1⟩ := judge_run (c := { c with R1 := less1 c.R1 w, R0 := c.R0 ++ [w] }) hrow hM (by dsimp only; simp; omega) (by dsimp only; have := less1_len c.R1 w; omega)
        obtain ⟨v2, j2, k2⟩ := judge_run (c := { c with R1 := less1 c.R1 w }) hrow hM (by dsimp only; omega) (by dsimp only; have := less1_len c.R1 w; omega)
        obtain ⟨v3, j3, k3⟩ := judge_run (c := { c with R1 := c.R1 ++ [w] }) hrow hM (by dsimp only; omega) (by dsimp only; simp; omega)
        rw [s1 _ k2] at j2
        rw [s2 _ k3] at j3
        have n1 := s3 _ k1
        dsimp only at j1 j2 j3
        rw [rest1_run (by omega), jn_inl, hw]
        simp only [List.nil_append]
        rw [if_pos (by simp; omega), if_pos (by simp; omega), if_pos (by simp; omega), if_pos (by simp; omega), j1]
        simp only [Option.bind_some]
        rw [if_neg n1, j2]
        simp only [Option.bind_some]
        rw [jn_inl, if_pos (by simp), j3]
        simp only [Option.bind_some]
        rw [jn_inl]
        simp
    · rw [if_neg hneg, if_pos (by omega), count_run l0]
      simp only [Option.bind_some]
      obtain ⟨w, hw⟩ : ∃ w, Int.tmod a2 (c.O.length : Int) = w := ⟨_, rfl⟩
      have h0 : 0 ≤ w := by rw [← hw]; exact Int.tmod_nonneg _ (by omega)
      have h1 : w < (c.O.length : Int) := by rw [← hw]; exact Int.tmod_lt_of_pos _ hpos
      rw [hw]
      by_cases hc : (0 : Int) < (c.R0.count w : Int)
      · rw [if_pos hc]
        have hin : w ∈ c.R0 := List.count_pos_iff.1 (by omega)
        obtain ⟨s1, s2, s3⟩ := spoilt0 acc h0 h1 hin
        obtain ⟨v1, j1, k1⟩ := judge_run (c := { c with R0 := less1 c.R0 w, R1 := c.R1 ++ [w] }) hrow hM (by dsimp only; have := less1_len c.R0 w; omega) (by dsimp only; simp; omega)
        obtain ⟨v2, j2, k2⟩ := judge_run (c := { c with R0 := less1 c.R0 w }) hrow hM (by dsimp only; have := less1_len c.R0 w; omega) (by dsimp only; omega)
        obtain ⟨v3, j3, k3⟩ := judge_run (c := { c with R0 := c.R0 ++ [w] }) hrow hM (by dsimp only; simp; omega) (by dsimp only; omega)
        rw [s1 _ k2] at j2
        rw [s2 _ k3] at j3
        have n1 := s3 _ k1
        dsimp only at j1 j2 j3
        rw [rest2_run (by omega), jn_inl, hw]
        simp only [List.nil_append]
        rw [if_pos (by simp; omega), if_pos (by simp; omega), if_pos (by simp; omega), if_pos (by simp; omega), j1]
        simp only [Option.bind_some]
        rw [if_neg n1, j2]
        simp only [Option.bind_some]
        rw [jn_inl, if_pos (by simp), j3]
        simp only [Option.bind_some]
        rw [jn_inl]
        simp
      · rw [if_neg hc]
        have hin : w ∈ c.R1 := List.count_pos_iff.1 (by have := acc.sum h0 h1; omega)
        obtain ⟨s1, s2, s3⟩ := spoilt1 acc h0 h1 hin
        obtain ⟨v1, j1, k1⟩ := judge_run (c := { c with R1 := less1 c.R1 w, R0 := c.R0 ++ [w] }) hrow hM (by dsimp only; simp; omega) (by dsimp only; have := less1_len c.R1 w; omega)
        obtain ⟨v2, j2, k2⟩ := judge_run (c := { c with R1 := less1 c.R1 w }) hrow hM (by dsimp only; omega) (by dsimp only; have := less1_len c.R1 w; omega)
        obtain ⟨v3, j3, k3⟩ := judge_run (c := { c with R1 := c.R1 ++ [w] }) hrow hM (by dsimp only; omega) (by dsimp only; simp; omega)
        rw [s1 _ k2] at j2
        rw [s2 _ k3] at j3
        have n1 := s3 _ k1
        dsimp only at j1 j2 j3
        rw [rest3_run (by omega), jn_inl, hw]
        simp only [List.nil_append]
        rw [if_pos (by simp; omega), if_pos (by simp; omega), if_pos (by simp; omega), if_pos (by simp; omega), j1]
        simp only [Option.bind_some]
        rw [if_neg n1, j2]
        simp only [Option.bind_some]
        rw [jn_inl, if_pos (by simp), j3]
        simp only [Option.bind_some]
        rw [jn_inl]
        simp
  · rw [decide_eq_false hv, if_pos (by simp)]
theorem bailifflaw16_JudgeSpoilt_run {O P : List Int} {M : List (List Int)} {R0 R1 M0 M1 : List Int} {a2 : Int} (_ : O.length ≤ maxLen) (_ : ∀ x ∈ O, (Lit.int .i64 x).wf = true) (_ : P.length ≤ maxLen) (_ : ∀ x ∈ P, (Lit.int .i64 x).wf = true)
    (hM : M.length ≤ maxLen) (hrow : ∀ xs ∈ M, xs.length ≤ maxLen) (_ : ∀ xs ∈ M, ∀ x ∈ xs, (Lit.int .i64 x).wf = true) (l0 : R0.length ≤ maxLen) (_ : ∀ x ∈ R0, (Lit.int .i64 x).wf = true) (l1 : R1.length ≤ maxLen) (_ : ∀ x ∈ R1, (Lit.int .i64 x).wf = true)
    (_ : M0.length ≤ maxLen) (_ : ∀ x ∈ M0, (Lit.int .i64 x).wf = true) (_ : M1.length ≤ maxLen) (_ : ∀ x ∈ M1, (Lit.int .i64 x).wf = true) (hw : (Lit.int .i64 a2).wf = true) : bailifflaw16_JudgeSpoilt.f O P M R0 R1 M0 M1 a2 = some true := by
  have key : ∀ {n : Nat}, n ≤ maxLen → (n : Int) ≤ 9223372036854775807 := fun h => by unfold maxLen at h; omega
  exact spoilt_some (c := ⟨O, P, M, R0, R1, M0, M1⟩) (fun r hr => key (hrow r hr)) (key hM) (key l0) (key l1) (by simpa [Lit.wf, IntKind.min, IntKind.max, IntKind.signed, IntKind.bits] using hw)
end
end Go.Bw
