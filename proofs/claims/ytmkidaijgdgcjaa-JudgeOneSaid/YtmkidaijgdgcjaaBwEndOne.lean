/- JudgeOne's model comes to true, whatever comes in: an accepted claim has the solver's regions. Conditions: none. -/
import Derived.Test.YtmkidaijgdgcjaaBwOne2
import Derived.Test.YtmkidaijgdgcjaaBwSets
import Derived.Test.YtmkidaijgdgcjaaBwJudge4
import Derived.Test.YtmkidaijgdgcjaaBwShown16
set_option linter.unusedVariables false
set_option linter.unusedSimpArgs false
set_option linter.unusedSectionVars false
namespace Go.Bw
open Go Go.RowKit Tj Pg

theorem band1 {x : Int} (h0 : 0 ≤ x) (h1 : x ≤ 9223372036854775807) : band .i64 x 1 = x % 2 := by
  show IntKind.i64.wrap ((BitVec.ofInt 64 x &&& BitVec.ofInt 64 1).toNat : Int) = _
  have e1 : (BitVec.ofInt 64 x).toNat = x.toNat := by rw [BitVec.toNat_ofInt]; omega
  rw [BitVec.toNat_and, e1, show (BitVec.ofInt 64 1).toNat = 1 from rfl, Nat.and_one_is_mod, wrap64 (by omega) (by omega)]
  omega
/-- How many of the first n numbers a list holds, all in all. -/
def cntTo (l : List Int) : Nat → Nat
  | 0 => 0
  | k + 1 => cntTo l k + l.count (k : Int)
theorem cntTo_cons {x : Int} {l : List Int} (h0 : 0 ≤ x) : ∀ k : Nat, cntTo (x :: l) k = cntTo l k + if x < (k : Int) then 1 else 0
  | 0 => by rw [if_neg (by omega)]; rfl
  | k + 1 => by
    show cntTo (x :: l) k + (x :: l).count (k : Int) = (cntTo l k + l.count (k : Int)) + _
    have e1 : (if x < ((k + 1 : Nat) : Int) then 1 else 0) = (if x < (k : Int) then 1 else 0) + (if (x == (k : Int)) = true then 1 else 0) := by
      by_cases h : x = (k : Int)
      · rw [if_pos (by omega), if_neg (by omega), if_pos (by simpa using h)]
      · by_cases h2 : x < (k : Int)
        · rw [if_pos (by omega), if_pos h2, if_neg (by simpa using h)]
        · rw [if_neg (by omega), if_neg h2, if_neg (by simpa using h)]
    rw [cntTo_cons h0 k, List.count_cons, e1]
    omega
theorem cntTo_len {n : Nat} : ∀ {l : List Int}, (∀ x ∈ l, 0 ≤ x ∧ x < (n : Int)) → cntTo l n = l.length
  | [], h => by
    clear h
    induction n with
    | zero => rfl
    | succ n ih => show cntTo [] n + _ = _; rw [ih]; rfl
  | x :: l, h => by
    have hx := h x (by simp)
    rw [cntTo_cons hx.1, if_pos hx.2, cntTo_len (fun y hy => h y (by simp [hy]))]
    rfl
theorem cntTo_two {a b : List Int} : ∀ (n : Nat), (∀ i : Nat, i < n → a.count (i : Int) + b.count (i : Int) = 1) → cntTo a n + cntTo b n = n
  | 0, _ => rfl
  | n + 1, h => by
    have := cntTo_two n fun i hi => h i (by omega)
    have h2 := h n (by omega)
    show (cntTo a n + a.count (n : Int)) + (cntTo b n + b.count (n : Int)) = n + 1
    omega
section
variable {c : Cl}
theorem Cl.Acc.range (a : c.Acc) {p x : Int} (hp : p = 0 ∨ p = 1) (hx : x ∈ c.R p) : 0 ≤ x ∧ x < (c.O.length : Int) := by
  have h := offs_zero.1 a.off
  rcases hp with rfl | rfl
  · exact h.1 x hx
  · exact h.2 x hx
/-- An accepted claim's moves win its regions. -/
theorem Cl.Acc.win (a : c.Acc) {p : Int} (hp : p = 0 ∨ p = 1) : Win (gt c.O) (gt c.P) (gt c.M) (fun x => 0 ≤ x ∧ x < (c.O.length : Int)) p (· ∈ c.R p) (c.mv p) := by
  have hlo := a.gr.lo
  have hlp := a.gr.lp
  refine ⟨fun x hx => a.range hp hx, fun x hx ho => ?_, fun x hx ho y hy _ => ?_, fun x hx hpar hc => ?_⟩
  · have hr := a.range hp hx
    exact ⟨(a.own hp hr.1 hr.2 hx ho).1, (a.own hp hr.1 hr.2 hx ho).2.1⟩
  · have hr := a.range hp hx
    exact (a.other hp hr.1 hr.2 hx ho).1 y hy
  · have hr := a.range hp hx
    have hpr : ∀ z, 0 ≤ z → z < (c.O.length : Int) → prio c.P z = gt c.P z := fun z h0 h1 => by unfold prio; rw [if_pos (by omega)]
    have h7 := a.gr.prio x ⟨hr.1, by omega⟩
    have step : ∀ {u v : Int}, E (gt c.O) (gt c.M) (fun x => 0 ≤ x ∧ x < (c.O.length : Int)) (· ∈ c.R p) p (c.mv p) u v → gt c.P v ≤ gt c.P x → Ed (c.gph p) (upto c.P (prio c.P x)) u v := by
      intro u v ⟨hu, he⟩ hle
      have hur := a.range hp hu
      have hv : v ∈ gt (c.gph p) u ∧ v ∈ c.R p := by
        rcases he with ⟨ho, rfl⟩ | ⟨ho, hm, _⟩
        · obtain ⟨_, k2, k3⟩ := a.own hp hur.1 hur.2 hu ho
          exact ⟨by rw [k3]; simp, k2⟩
        · obtain ⟨k1, k2⟩ := a.other hp hur.1 hur.2 hu ho
          exact ⟨by rw [k2]; exact hm, k1 v hm⟩
      have hvr := a.range hp hv.2
      refine ⟨hv.1, ⟨hvr.1, by rw [gph_len]; exact hvr.2⟩, ?_⟩
      unfold upto
      rw [hpr v hvr.1 hvr.2, hpr x hr.1 hr.2]
      exact decide_eq_true hle
    have path : ∀ {u v : Int}, Pt (E (gt c.O) (gt c.M) (fun x => 0 ≤ x ∧ x < (c.O.length : Int)) (· ∈ c.R p) p (c.mv p)) (gt c.P) (gt c.P x) u v → ∃ y, Ed (c.gph p) (upto c.P (prio c.P x)) u y ∧ Rch (c.gph p) (upto c.P (prio c.P x)) y v := by
      intro u v h
      induction h with
      | one e p1 => exact ⟨_, step e p1, .refl _⟩
      | cons e p1 _ ih =>
        obtain ⟨y, k1, k2⟩ := ih
        exact ⟨_, step e p1, .step k1 k2⟩
    refine a.cyc hp hr.1 hr.2 ?_ (path hc)
    unfold par
    rw [hpr x hr.1 hr.2, band1 h7.1 (by omega), band1 (by omega) (by omega)]
    omega
theorem Cl.Acc.both (a : c.Acc) {x : Int} (h0 : 0 ≤ x) (h1 : x < (c.O.length : Int)) : x ∈ c.R0 ∨ x ∈ c.R1 := by
  have h := Classical.not_not.1 (a.part x h0 h1)
  by_cases k : x ∈ c.R0
  · exact .inl k
  · right
    have : (c.R0.count x : Int) = 0 := by rw [List.count_eq_zero.2 k]; rfl
    refine Classical.byContradiction fun k1 => ?_
    have : (c.R1.count x : Int) = 0 := by rw [List.count_eq_zero.2 k1]; rfl
    omega
theorem Cl.Acc.total (a : c.Acc) : c.R0.length + c.R1.length = c.O.length := by
  have h := offs_zero.1 a.off
  rw [← cntTo_len h.1, ← cntTo_len h.2]
  exact cntTo_two _ fun i hi => by
    have := Classical.not_not.1 (a.part (i : Int) (by omega) (by omega))
    omega
theorem one_some (hrow : ∀ r ∈ c.M, (r.length : Int) ≤ 9223372036854775807) (hM : (c.M.length : Int) ≤ 9223372036854775807) (l0 : (c.R0.length : Int) ≤ 9223372036854775807) (l1 : (c.R1.length : Int) ≤ 9223372036854775807) :
    bailifflaw16_JudgeOne.f c.O c.P c.M c.R0 c.R1 c.M0 c.M1 = some true := by
  obtain ⟨v, e, s⟩ := judge_run (c := c) hrow hM l0 l1
  unfold bailifflaw16_JudgeOne.f
  rw [shown16_run]
  simp only [Option.bind_some]
  rw [e]
  simp only [Option.bind_some]
  rw [if_pos trivial, jn_inl]
  by_cases hv : v.1 = 0
  · have acc := s.acc.1 hv
    have hlo := acc.gr.lo
    have hmany := acc.gr.many
    rw [decide_eq_true hv, if_neg (by simp)]
    obtain ⟨w1, w0, hs, hl0, hl1, hall, ⟨σ0, k0⟩, ⟨σ1, k1⟩⟩ := solve13_run acc.gr hrow
    have z0 := acc.win (.inl rfl)
    have z1 := acc.win (.inr rfl)
    have e0 : c.R 0 = c.R0 := if_pos rfl
    have e1 : c.R 1 = c.R1 := if_neg (by decide)
    rw [e0] at z0
    rw [e1] at z1
    have hown : ∀ x, (0 ≤ x ∧ x < (c.O.length : Int)) → gt c.O x = 0 ∨ gt c.O x = 1 := fun x hx => by have := acc.gr.own x ⟨hx.1, by omega⟩; omega
    have m0 : ∀ x, x ∈ c.R0 ↔ x ∈ w0 := fun x => by
      constructor
      · intro hx
        rcases hall x (z0.sub x hx) with h | h
        · exact h
        · exact (win_disj (fun x h => h) z0 k1 hown hx h).elim
      · intro hx
        have hr := k0.sub x hx
        rcases acc.both hr.1 hr.2 with h | h
        · exact h
        · exact (win_disj (fun x h => h) k0 z1 hown hx h).elim
    have m1 : ∀ x, x ∈ c.R1 ↔ x ∈ w1 := fun x => by
      constructor
      · intro hx
        rcases hall x (z1.sub x hx) with h | h
        · exact (win_disj (fun x h => h) k0 z1 hown h hx).elim
        · exact h
      · intro hx
        have hr := k1.sub x hx
        rcases acc.both hr.1 hr.2 with h | h
        · exact (win_disj (fun x h => h) z0 k1 hown h hx).elim
        · exact h
    obtain ⟨u0, hu0, r0⟩ := of_run4 (l := c.R0) l0
    obtain ⟨u1, hu1, r1⟩ := of_run4 (l := c.R1) l1
    obtain ⟨v0, hv0, t0⟩ := of_run4 (l := w0) (by omega)
    obtain ⟨v1, hv1, t1⟩ := of_run4 (l := w1) (by omega)
    have q0 : u0 = v0 := r0.uniq t0 fun n _ _ => m0 n
    have q1 : u1 = v1 := r1.uniq t1 fun n _ _ => m1 n
    subst q0 q1
    have htot := acc.total
    rw [hs]
    simp only [Option.bind_some]
    rw [hu0, hu1, hv0, hv1]
    simp only [Option.bind_some, decide_true, Bool.and_true, if_true]
    rw [jn_inl, if_pos rfl, jn_inl, wrap64 (by omega) (by omega), decide_eq_true (by omega)]
  · rw [decide_eq_false hv, if_pos (by simp)]
end
theorem bailifflaw16_JudgeOne_run {O P : List Int} {M : List (List Int)} {R0 R1 M0 M1 : List Int} (_ : O.length ≤ maxLen) (_ : ∀ x ∈ O, (Lit.int .i64 x).wf = true) (_ : P.length ≤ maxLen) (_ : ∀ x ∈ P, (Lit.int .i64 x).wf = true)
    (hM : M.length ≤ maxLen) (hrow : ∀ xs ∈ M, xs.length ≤ maxLen) (_ : ∀ xs ∈ M, ∀ x ∈ xs, (Lit.int .i64 x).wf = true) (l0 : R0.length ≤ maxLen) (_ : ∀ x ∈ R0, (Lit.int .i64 x).wf = true) (l1 : R1.length ≤ maxLen) (_ : ∀ x ∈ R1, (Lit.int .i64 x).wf = true)
    (_ : M0.length ≤ maxLen) (_ : ∀ x ∈ M0, (Lit.int .i64 x).wf = true) (_ : M1.length ≤ maxLen) (_ : ∀ x ∈ M1, (Lit.int .i64 x).wf = true) : bailifflaw16_JudgeOne.f O P M R0 R1 M0 M1 = some true := by
  have key : ∀ {n : Nat}, n ≤ maxLen → (n : Int) ≤ 9223372036854775807 := fun h => by unfold maxLen at h; omega
  exact one_some (c := ⟨O, P, M, R0, R1, M0, M1⟩) (fun r hr => key (hrow r hr)) (key hM) (key l0) (key l1)
end Go.Bw
