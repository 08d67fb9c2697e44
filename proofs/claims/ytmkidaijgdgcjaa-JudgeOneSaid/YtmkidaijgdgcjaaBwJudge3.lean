/- The judge's verdict, as its model tells it. Conditions: none. -/
import Derived.Test.YtmkidaijgdgcjaaBwJudge2
set_option linter.unusedVariables false
set_option linter.unusedSimpArgs false
set_option linter.unusedSectionVars false
namespace Go.Bw
open Go Go.RowKit Tj

/-- A game and a claim on it. -/
structure Cl where
  O : List Int
  P : List Int
  M : List (List Int)
  R0 : List Int
  R1 : List Int
  M0 : List Int
  M1 : List Int
namespace Cl
variable (c : Cl)
def R (p : Int) : List Int := if p = 0 then c.R0 else c.R1
def A (p : Int) : List Int := if p = 0 then c.M0 else c.M1
def mv (p i : Int) : Int := if i < ((c.A p).length : Int) then gt (c.A p) i else -1
def stp (p i : Int) : List Int × Int :=
  if gt c.O i = p then (if c.mv p i ∈ gt c.M i then (if c.mv p i ∈ c.R p then ([c.mv p i], 0) else ([], 20)) else ([], 16))
  else if ∀ m ∈ gt c.M i, m ∈ c.R p then (gt c.M i, 0) else ([], 20)
def gph (p : Int) : List (List Int) := (List.range c.O.length).map fun i : Nat => if (i : Int) ∈ c.R p then (c.stp p i).1 else []
def BadS (p i : Int) : Prop := i ∈ c.R p ∧ (c.stp p i).2 ≠ 0
/-- The first node that tops a bad cycle. -/
def BadC (p b : Int) : Prop := Mn b (fun x => Tj.Ok (c.gph p) x ∧ par (prio c.P x) (1 - p) ∧ OnCyc (c.gph p) c.P (prio c.P x) x)
inductive Says : Int × Int × Int → Prop
  | arg : ¬ GR c.O c.P c.M → Says (1, 0, 0)
  | part (i : Int) : GR c.O c.P c.M → Fst c.O.length (Odd c.R0 c.R1) i → Says (19, 0, i)
  | off : GR c.O c.P c.M → (∀ i : Int, 0 ≤ i → i < (c.O.length : Int) → ¬ Odd c.R0 c.R1 i) → (offs c.O.length c.R0 c.R1).1 ≠ 0 → Says (offs c.O.length c.R0 c.R1)
  | step0 (i : Int) : GR c.O c.P c.M → (∀ i : Int, 0 ≤ i → i < (c.O.length : Int) → ¬ Odd c.R0 c.R1 i) → (offs c.O.length c.R0 c.R1).1 = 0 → Fst c.O.length (c.BadS 0) i → Says ((c.stp 0 i).2, 0, i)
  | step1 (i : Int) : GR c.O c.P c.M → (∀ i : Int, 0 ≤ i → i < (c.O.length : Int) → ¬ Odd c.R0 c.R1 i) → (offs c.O.length c.R0 c.R1).1 = 0 → (∀ i, 0 ≤ i → i < (c.O.length : Int) → ¬ c.BadS 0 i) → Fst c.O.length (c.BadS 1) i → Says ((c.stp 1 i).2, 1, i)
  | cyc0 (b : Int) : GR c.O c.P c.M → (∀ i : Int, 0 ≤ i → i < (c.O.length : Int) → ¬ Odd c.R0 c.R1 i) → (offs c.O.length c.R0 c.R1).1 = 0 → (∀ i, 0 ≤ i → i < (c.O.length : Int) → ¬ c.BadS 0 i) → (∀ i, 0 ≤ i → i < (c.O.length : Int) → ¬ c.BadS 1 i) →
      c.BadC 0 b → 0 ≤ b → Says (21, 0, b)
  | cyc1 (a b : Int) : GR c.O c.P c.M → (∀ i : Int, 0 ≤ i → i < (c.O.length : Int) → ¬ Odd c.R0 c.R1 i) → (offs c.O.length c.R0 c.R1).1 = 0 → (∀ i, 0 ≤ i → i < (c.O.length : Int) → ¬ c.BadS 0 i) → (∀ i, 0 ≤ i → i < (c.O.length : Int) → ¬ c.BadS 1 i) →
      c.BadC 0 a → a < 0 → c.BadC 1 b → 0 ≤ b → Says (21, 1, b)
  | ok (a b : Int) : GR c.O c.P c.M → (∀ i : Int, 0 ≤ i → i < (c.O.length : Int) → ¬ Odd c.R0 c.R1 i) → (offs c.O.length c.R0 c.R1).1 = 0 → (∀ i, 0 ≤ i → i < (c.O.length : Int) → ¬ c.BadS 0 i) → (∀ i, 0 ≤ i → i < (c.O.length : Int) → ¬ c.BadS 1 i) →
      c.BadC 0 a → a < 0 → c.BadC 1 b → b < 0 → Says (0, 0, 0)
end Cl
theorem gt_range {α : Type} [Inhabited α] {n : Nat} {f : Nat → α} {i : Int} (h0 : 0 ≤ i) (h1 : i < (n : Int)) : gt ((List.range n).map f) i = f i.toNat := by
  unfold gt
  rw [List.getD_eq_getElem?_getD, List.getElem?_map, List.getElem?_range (by omega)]
  rfl
section
variable {c : Cl} {c0 c1 : List Int}
/-- What counts the regions. -/
structure Cnt (c : Cl) (c0 c1 : List Int) : Prop where
  l0 : c0.length = c.O.length
  l1 : c1.length = c.O.length
  g0 : ∀ i : Int, 0 ≤ i → i < (c.O.length : Int) → gt c0 i = (c.R0.count i : Int)
  g1 : ∀ i : Int, 0 ≤ i → i < (c.O.length : Int) → gt c1 i = (c.R1.count i : Int)
theorem cnt_zero {l : List Int} {i : Int} : (l.count i : Int) = 0 ↔ i ∉ l := by
  rw [← List.count_eq_zero]
  omega
theorem move_run {p i : Int} {x y : List Int} (hp : p = 0 ∨ p = 1) (hi : 0 ≤ i) : judge_court_move.f c.O c.P c.M c.R0 c.R1 c.M0 c.M1 x y p i = some (c.mv p i) := by
  unfold judge_court_move.f Cl.mv Cl.A
  rcases hp with rfl | rfl
  · have e : (if (0 : Int) = 0 then c.M0 else c.M1) = c.M0 := if_pos rfl
    rw [e, if_pos ⟨by omega, by omega⟩, if_pos rfl, jn_inl]
    by_cases h : i < (c.M0.length : Int)
    · rw [if_pos (decide_eq_true h), if_pos (show (0 : Int) ≤ 0 ∧ (0 : Int) < 2 by decide), if_pos rfl, if_pos (show 0 ≤ i ∧ i < (c.M0.length : Int) from ⟨hi, h⟩), jn_inl, if_pos h]
    · rw [if_neg (by simp; omega), if_neg h]
  · have e : (if (1 : Int) = 0 then c.M0 else c.M1) = c.M1 := if_neg (by decide)
    have h1 : ¬ (1 : Int) = 0 := by decide
    rw [e, if_pos ⟨by omega, by omega⟩, if_neg h1, jn_inl]
    by_cases h : i < (c.M1.length : Int)
    · rw [if_pos (decide_eq_true h), if_pos (show (0 : Int) ≤ 1 ∧ (1 : Int) < 2 by decide), if_neg h1, if_pos (show 0 ≤ i ∧ i < (c.M1.length : Int) from ⟨hi, h⟩), jn_inl, if_pos h]
    · rw [if_neg (by simp; omega), if_neg h]
theorem out_run {p m : Int} (hc : Cnt c c0 c1) (hp : p = 0 ∨ p = 1) (h0 : 0 ≤ m) (h1 : m < (c.O.length : Int)) : judge_court_steps_1.f m c.O c.P c.M c.R0 c.R1 c.M0 c.M1 c0 c1 p = some (decide (m ∉ c.R p)) := by
  unfold judge_court_steps_1.f Cl.R
  rcases hp with rfl | rfl
  · rw [if_pos ⟨by omega, by omega⟩, if_pos rfl, if_pos ⟨h0, by rw [hc.l0]; exact h1⟩, jn_inl, if_pos rfl, hc.g0 m h0 h1]
    congr 1
    exact decide_eq_decide.2 cnt_zero
  · rw [if_pos ⟨by omega, by omega⟩, if_neg (by decide), if_pos ⟨h0, by rw [hc.l1]; exact h1⟩, jn_inl, if_neg (by decide), hc.g1 m h0 h1]
    congr 1
    exact decide_eq_decide.2 cnt_zero
theorem outs_run {p : Int} {l : List Int} (hc : Cnt c c0 c1) (hp : p = 0 ∨ p = 1) (hl : ∀ m ∈ l, 0 ≤ m ∧ m < (c.O.length : Int)) (hlen : (l.length : Int) ≤ 9223372036854775807) :
    slices_ContainsFunc_int_int.f l c.O c.P c.M c.R0 c.R1 c.M0 c.M1 c0 c1 p = some (decide (¬ ∀ m ∈ l, m ∈ c.R p)) := by
  obtain ⟨r, hr, hq⟩ := iter_meas (body := fun t_ : Int => slices_IndexFunc_int_int.l0b l c.O c.P c.M c.R0 c.R1 c.M0 c.M1 c0 c1 p t_)
    (fun k => 0 ≤ k ∧ k ≤ (l.length : Int) ∧ ∀ m ∈ l.take k.toNat, m ∈ c.R p)
    (fun r => (r = .inl () ∧ ∀ m ∈ l, m ∈ c.R p) ∨ (∃ k : Int, r = .inr k ∧ 0 ≤ k ∧ ¬ ∀ m ∈ l, m ∈ c.R p)) (fun k => (l.length - k).toNat)
    (fun k ⟨h0, h1, h2⟩ => by
      unfold slices_IndexFunc_int_int.l0b
      by_cases hk : k < (l.length : Int)
      · have hm := gt_mem h0 hk
        have hok := hl _ hm
        rw [if_pos hk, if_pos ⟨h0, hk⟩, out_run hc hp hok.1 hok.2]
        simp only [Option.bind_some]
        by_cases hin : gt l k ∈ c.R p
        · right
          rw [if_neg (by simp [hin]), wrap64 (x := k + 1) (by omega) (by omega)]
          refine ⟨_, rfl, ⟨by omega, by omega, fun m hm => ?_⟩, by omega⟩
          rw [show (k + 1).toNat = k.toNat + 1 from by omega, List.take_add_one, gt_some h0 hk] at hm
          rcases List.mem_append.1 hm with h | h
          · exact h2 m h
          · simp at h; rw [h]; exact hin
        · left
          rw [if_pos (decide_eq_true hin)]
          exact ⟨_, rfl, .inr ⟨k, rfl, h0, fun h => hin (h _ hm)⟩⟩
      · left
        rw [if_neg hk]
        refine ⟨_, rfl, .inl ⟨rfl, ?_⟩⟩
        rwa [List.take_of_length_le (by omega)] at h2) 0 ⟨Int.le_refl _, by omega, by simp⟩
  unfold slices_ContainsFunc_int_int.f slices_IndexFunc_int_int.f
  have hr' : slices_IndexFunc_int_int.l0 l c.O c.P c.M c.R0 c.R1 c.M0 c.M1 c0 c1 p 0 = some r := hr
  rw [hr']
  rcases hq with ⟨rfl, h⟩ | ⟨k, rfl, hk, h⟩
  · rw [jn_inl]
    simp only [Option.bind_some]
    rw [decide_eq_false (by decide), decide_eq_false (fun hh => hh h)]
  · show (some k).bind _ = _
    simp only [Option.bind_some]
    rw [decide_eq_true hk, decide_eq_true h]
theorem gr_range (h : GR c.O c.P c.M) {i : Int} (h0 : 0 ≤ i) (h1 : i < (c.O.length : Int)) : ∀ m ∈ gt c.M i, 0 ≤ m ∧ m < (c.O.length : Int) := fun m hm => by
  obtain ⟨k, hk, rfl⟩ := List.getElem_of_mem hm
  have hl := h.lo
  have := (h.rise i ⟨h0, by omega⟩ (k : Int) (by omega) (by omega)).1
  rw [gt_of_get (List.getElem?_eq_getElem hk)] at this
  exact ⟨this.1, by rw [hl]; exact this.2⟩
theorem steps_run {p i : Int} (h : GR c.O c.P c.M) (hrow : ∀ r ∈ c.M, (r.length : Int) ≤ 9223372036854775807) (hc : Cnt c c0 c1) (hp : p = 0 ∨ p = 1) (h0 : 0 ≤ i) (h1 : i < (c.O.length : Int)) :
    judge_court_steps.f c.O c.P c.M c.R0 c.R1 c.M0 c.M1 c0 c1 p i = some (c.stp p i) := by
  have hl := h.lo
  have hm : gt c.M i ∈ c.M := gt_mem h0 (by omega)
  unfold judge_court_steps.f Cl.stp
  rw [if_pos ⟨h0, by omega⟩, if_pos ⟨h0, h1⟩]
  by_cases ho : gt c.O i = p
  · rw [if_pos ho, if_pos ho, move_run hp h0]
    simp only [Option.bind_some]
    rw [contains_run (hrow _ hm)]
    simp only [Option.bind_some]
    by_cases hmv : c.mv p i ∈ gt c.M i
    · rw [if_pos (decide_eq_true hmv), if_pos hmv, outs_run hc hp (fun m hm => by simp at hm; rw [hm]; exact gr_range h h0 h1 _ hmv) (by simp)]
      simp only [Option.bind_some]
      by_cases hin : c.mv p i ∈ c.R p
      · rw [if_neg (by simp [hin]), if_pos hin]
      · rw [if_pos (by simp [hin]), if_neg hin]
    · rw [if_neg (by simp [hmv]), if_neg hmv]
  · rw [if_neg ho, if_neg ho, outs_run hc hp (gr_range h h0 h1) (hrow _ hm)]
    simp only [Option.bind_some]
    by_cases hin : ∀ m ∈ gt c.M i, m ∈ c.R p
    · rw [if_neg (by simpa using hin), if_pos hin]
    · rw [if_pos (decide_eq_true hin), if_neg hin]
theorem gph_of {p : Int} {g : List (List Int)} (hl : g.length = c.O.length) (hg : ∀ i : Int, 0 ≤ i → i < (c.O.length : Int) → gt g i = if i ∈ c.R p then (c.stp p i).1 else []) : g = c.gph p := by
  unfold Cl.gph
  apply List.ext_getElem?
  intro k
  by_cases hk : k < c.O.length
  · have := hg (k : Int) (by omega) (by omega)
    rw [List.getElem?_map, List.getElem?_range hk]
    have e : gt g (k : Int) = g[k] := gt_of_get (List.getElem?_eq_getElem (by omega))
    rw [List.getElem?_eq_getElem (by omega), ← e, this]
    rfl
  · rw [List.getElem?_eq_none (by omega), List.getElem?_eq_none (by simp; omega)]
theorem sweep0_run {v : Int × Int × Int} (h : GR c.O c.P c.M) (hrow : ∀ r ∈ c.M, (r.length : Int) ≤ 9223372036854775807) (hc : Cnt c c0 c1) :
    ∃ r, judge_Judge.l0 c.O c.P c.M c.R0 c.R1 c.M0 c.M1 (c1, c0, v) (List.replicate (c.O.length : Int).toNat ([] : List Int)) 0 = some r ∧
      ((r = .inl (c.gph 0) ∧ ∀ i, 0 ≤ i → i < (c.O.length : Int) → ¬ c.BadS 0 i) ∨ ∃ i, Fst c.O.length (c.BadS 0) i ∧ r = .inr ((c.stp 0 i).2, 0, i)) := by
  have hrl : (List.replicate (c.O.length : Int).toNat (0 : Int)).length = c.O.length := by simp
  have hrl2 : (List.replicate (c.O.length : Int).toNat ([] : List Int)).length = c.O.length := by simp
  have hmany := h.many
  have hlo := h.lo
  refine iter_meas (body := fun t_ : (List (List Int)) × Int => judge_Judge.l0b c.O c.P c.M c.R0 c.R1 c.M0 c.M1 (c1, c0, v) t_.1 t_.2)
    (fun s => 0 ≤ s.2 ∧ s.2 ≤ (c.O.length : Int) ∧ s.1.length = c.O.length ∧ (∀ i, 0 ≤ i → i < s.2 → ¬ c.BadS 0 i) ∧ ∀ i : Int, 0 ≤ i → i < (c.O.length : Int) → gt s.1 i = if i < s.2 ∧ i ∈ c.R 0 then (c.stp 0 i).1 else [])
    (fun r => (r = .inl (c.gph 0) ∧ ∀ i, 0 ≤ i → i < (c.O.length : Int) → ¬ c.BadS 0 i) ∨ ∃ i, Fst c.O.length (c.BadS 0) i ∧ r = .inr ((c.stp 0 i).2, 0, i)) (fun s => (c.O.length - s.2).toNat)
    (fun ⟨g, k⟩ ⟨a0, a1, a2, a3, a4⟩ => ?_) (List.replicate (c.O.length : Int).toNat ([] : List Int), 0) ⟨Int.le_refl _, by dsimp only; omega, hrl2, fun i h0 h1 => by dsimp only at h1; omega, fun i h0 h1 => by
      dsimp only
      rw [if_neg (fun hh => by omega)]
      unfold gt
      rw [List.getD_eq_getElem?_getD, List.getElem?_replicate]
      split <;> rfl⟩
  dsimp only at a0 a1 a2 a3 a4 ⊢
  unfold judge_Judge.l0b
  rw [hrl, hrl2]
  by_cases hk : k < (c.O.length : Int)
  · rw [if_pos hk, if_pos ⟨a0, hk⟩]
    dsimp only
    rw [hc.g0 k a0 hk]
    by_cases hin : k ∈ c.R0
    · rw [if_neg (fun e => cnt_zero.1 e hin), steps_run h hrow hc (.inl rfl) a0 hk]
      simp only [Option.bind_some]
      by_cases hs : (c.stp 0 k).2 = 0
      · right
        rw [if_pos hs, if_pos ⟨a0, hk⟩, jn_inl, wrap64 (x := k + 1) (by omega) (by omega)]
        refine ⟨_, rfl, ⟨by dsimp only; omega, by dsimp only; omega, (st_len _ _ _).trans a2, fun i b0 b1 => ?_, fun i b0 b1 => ?_⟩, by dsimp only; omega⟩
        · by_cases hik : i = k
          · subst hik; exact fun hb => hb.2 hs
          · exact a3 i b0 (by dsimp only at b1; omega)
        · dsimp only
          rw [gt_st a0 (by rw [a2]; exact hk) b0]
          by_cases hik : i = k
          · subst hik
            rw [if_pos rfl, if_pos ⟨by omega, by unfold Cl.R; rw [if_pos rfl]; exact hin⟩]
          · rw [if_neg hik, a4 i b0 b1]
            by_cases hh : i < k ∧ i ∈ c.R 0
            · rw [if_pos hh, if_pos ⟨by omega, hh.2⟩]
            · rw [if_neg hh, if_neg (fun h' => hh ⟨by omega, h'.2⟩)]
      · left
        rw [if_neg hs]
        exact ⟨_, rfl, .inr ⟨k, ⟨⟨a0, hk⟩, ⟨by unfold Cl.R; rw [if_pos rfl]; exact hin, hs⟩, a3⟩, rfl⟩⟩
    · right
      rw [if_pos (cnt_zero.2 hin), jn_inl, wrap64 (x := k + 1) (by omega) (by omega)]
      have hnR : k ∉ c.R 0 := by unfold Cl.R; rw [if_pos rfl]; exact hin
      refine ⟨_, rfl, ⟨by dsimp only; omega, by dsimp only; omega, a2, fun i b0 b1 => ?_, fun i b0 b1 => ?_⟩, by dsimp only; omega⟩
      · by_cases hik : i = k
        · subst hik; exact fun hb => hnR hb.1
        · exact a3 i b0 (by dsimp only at b1; omega)
      · dsimp only
        rw [a4 i b0 b1]
        by_cases hh : i < k ∧ i ∈ c.R 0
        · rw [if_pos hh, if_pos ⟨by omega, hh.2⟩]
        · rw [if_neg hh, if_neg (fun h' => hh ⟨by
            by_cases hik : i = k
            · subst hik; exact absurd h'.2 hnR
            · omega, h'.2⟩)]
  · left
    rw [if_neg hk]
    refine ⟨_, rfl, .inl ⟨?_, fun i b0 b1 => a3 i b0 (by omega)⟩⟩
    rw [gph_of (p := 0) a2 (fun i b0 b1 => by
      rw [a4 i b0 b1]
      by_cases hh : i ∈ c.R 0
      · rw [if_pos ⟨by omega, hh⟩, if_pos hh]
      · rw [if_neg (fun h' => hh h'.2), if_neg hh])]
theorem sweep1_run {v : Int × Int × Int} (h : GR c.O c.P c.M) (hrow : ∀ r ∈ c.M, (r.length : Int) ≤ 9223372036854775807) (hc : Cnt c c0 c1) :
    ∃ r, judge_Judge.l1 c.O c.P c.M c.R0 c.R1 c.M0 c.M1 (c1, c0, v) (List.replicate (c.O.length : Int).toNat ([] : List Int)) 0 = some r ∧
      ((r = .inl (c.gph 1) ∧ ∀ i, 0 ≤ i → i < (c.O.length : Int) → ¬ c.BadS 1 i) ∨ ∃ i, Fst c.O.length (c.BadS 1) i ∧ r = .inr ((c.stp 1 i).2, 1, i)) := by
  have hrl : (List.replicate (c.O.length : Int).toNat (0 : Int)).length = c.O.length := by simp
  have hrl2 : (List.replicate (c.O.length : Int).toNat ([] : List Int)).length = c.O.length := by simp
  have hmany := h.many
  have hlo := h.lo
  refine iter_meas (body := fun t_ : (List (List Int)) × Int => judge_Judge.l1b c.O c.P c.M c.R0 c.R1 c.M0 c.M1 (c1, c0, v) t_.1 t_.2)
    (fun s => 0 ≤ s.2 ∧ s.2 ≤ (c.O.length : Int) ∧ s.1.length = c.O.length ∧ (∀ i, 0 ≤ i → i < s.2 → ¬ c.BadS 1 i) ∧ ∀ i : Int, 0 ≤ i → i < (c.O.length : Int) → gt s.1 i = if i < s.2 ∧ i ∈ c.R 1 then (c.stp 1 i).1 else [])
    (fun r => (r = .inl (c.gph 1) ∧ ∀ i, 0 ≤ i → i < (c.O.length : Int) → ¬ c.BadS 1 i) ∨ ∃ i, Fst c.O.length (c.BadS 1) i ∧ r = .inr ((c.stp 1 i).2, 1, i)) (fun s => (c.O.length - s.2).toNat)
    (fun ⟨g, k⟩ ⟨a0, a1, a2, a3, a4⟩ => ?_) (List.replicate (c.O.length : Int).toNat ([] : List Int), 0) ⟨Int.le_refl _, by dsimp only; omega, hrl2, fun i h0 h1 => by dsimp only at h1; omega, fun i h0 h1 => by
      dsimp only
      rw [if_neg (fun hh => by omega)]
      unfold gt
      rw [List.getD_eq_getElem?_getD, List.getElem?_replicate]
      split <;> rfl⟩
  dsimp only at a0 a1 a2 a3 a4 ⊢
  unfold judge_Judge.l1b
  rw [hrl, hrl2]
  by_cases hk : k < (c.O.length : Int)
  · rw [if_pos hk, if_pos ⟨a0, hk⟩]
    dsimp only
    rw [hc.g1 k a0 hk]
    by_cases hin : k ∈ c.R1
    · rw [if_neg (fun e => cnt_zero.1 e hin), steps_run h hrow hc (.inr rfl) a0 hk]
      simp only [Option.bind_some]
      by_cases hs : (c.stp 1 k).2 = 0
      · right
        rw [if_pos hs, if_pos ⟨a0, hk⟩, jn_inl, wrap64 (x := k + 1) (by omega) (by omega)]
        refine ⟨_, rfl, ⟨by dsimp only; omega, by dsimp only; omega, (st_len _ _ _).trans a2, fun i b0 b1 => ?_, fun i b0 b1 => ?_⟩, by dsimp only; omega⟩
        · by_cases hik : i = k
          · subst hik; exact fun hb => hb.2 hs
          · exact a3 i b0 (by dsimp only at b1; omega)
        · dsimp only
          rw [gt_st a0 (by rw [a2]; exact hk) b0]
          by_cases hik : i = k
          · subst hik
            rw [if_pos rfl, if_pos ⟨by omega, by unfold Cl.R; rw [if_neg (by decide)]; exact hin⟩]
          · rw [if_neg hik, a4 i b0 b1]
            by_cases hh : i < k ∧ i ∈ c.R 1
            · rw [if_pos hh, if_pos ⟨by omega, hh.2⟩]
            · rw [if_neg hh, if_neg (fun h' => hh ⟨by omega, h'.2⟩)]
      · left
        rw [if_neg hs]
        exact ⟨_, rfl, .inr ⟨k, ⟨⟨a0, hk⟩, ⟨by unfold Cl.R; rw [if_neg (by decide)]; exact hin, hs⟩, a3⟩, rfl⟩⟩
    · right
      rw [if_pos (cnt_zero.2 hin), jn_inl, wrap64 (x := k + 1) (by omega) (by omega)]
      have hnR : k ∉ c.R 1 := by unfold Cl.R; rw [if_neg (by decide)]; exact hin
      refine ⟨_, rfl, ⟨by dsimp only; omega, by dsimp only; omega, a2, fun i b0 b1 => ?_, fun i b0 b1 => ?_⟩, by dsimp only; omega⟩
      · by_cases hik : i = k
        · subst hik; exact fun hb => hnR hb.1
        · exact a3 i b0 (by dsimp only at b1; omega)
      · dsimp only
        rw [a4 i b0 b1]
        by_cases hh : i < k ∧ i ∈ c.R 1
        · rw [if_pos hh, if_pos ⟨by omega, hh.2⟩]
        · rw [if_neg hh, if_neg (fun h' => hh ⟨by
            by_cases hik : i = k
            · subst hik; exact absurd h'.2 hnR
            · omega, h'.2⟩)]
  · left
    rw [if_neg hk]
    refine ⟨_, rfl, .inl ⟨?_, fun i b0 b1 => a3 i b0 (by omega)⟩⟩
    rw [gph_of (p := 1) a2 (fun i b0 b1 => by
      rw [a4 i b0 b1]
      by_cases hh : i ∈ c.R 1
      · rw [if_pos ⟨by omega, hh⟩, if_pos hh]
      · rw [if_neg (fun h' => hh h'.2), if_neg hh])]
theorem gph_len (p : Int) : (c.gph p).length = c.O.length := by unfold Cl.gph; simp
theorem gph_row (h : GR c.O c.P c.M) (hrow : ∀ r ∈ c.M, (r.length : Int) ≤ 9223372036854775807) (p : Int) : ∀ r ∈ c.gph p, (r.length : Int) ≤ 9223372036854775807 := fun r hr => by
  unfold Cl.gph at hr
  obtain ⟨i, hi, rfl⟩ := List.mem_map.1 hr
  have hl := h.lo
  simp at hi
  split
  · unfold Cl.stp
    split
    · split
      · split <;> simp
      · simp
    · split
      · exact hrow _ (gt_mem (by omega) (by omega))
      · simp
  · simp
/-- What the judge says. -/
theorem judge_run (hrow : ∀ r ∈ c.M, (r.length : Int) ≤ 9223372036854775807) (hM : (c.M.length : Int) ≤ 9223372036854775807) (l0 : (c.R0.length : Int) ≤ 9223372036854775807) (l1 : (c.R1.length : Int) ≤ 9223372036854775807) :
    ∃ v, judge_Judge.f c.O c.P c.M c.R0 c.R1 c.M0 c.M1 = some v ∧ c.Says v := by
  obtain ⟨e, at_, e0, e1⟩ := right_run (O := c.O) (P := c.P) (M := c.M) hM hrow
  unfold judge_Judge.f
  rw [e0]
  simp only [Option.bind_some]
  by_cases hg : GR c.O c.P c.M
  · rw [if_pos (e1.2 hg)]
    have hmany := hg.many
    have hlo := hg.lo
    have hN : (c.O.length : Int) ≤ 1099511627776 := by omega
    obtain ⟨c0, c1, v, p0, p1, p2, p3, p4, p5⟩ := part_run (O := c.O) (P := c.P) (M := c.M) (M0 := c.M0) (M1 := c.M1) (x := []) (y := []) hN l0 l1
    rw [p0]
    simp only [Option.bind_some]
    rcases p5 with ⟨i, rfl, hi⟩ | ⟨hno, rfl⟩
    · rw [if_neg (by simp)]
      exact ⟨_, rfl, .part i hg hi⟩
    · by_cases hoff : (offs c.O.length c.R0 c.R1).1 = 0
      · rw [if_pos hoff, if_pos ⟨by omega, by omega⟩]
        have hc : Cnt c c0 c1 := ⟨p1, p2, p3, p4⟩
        obtain ⟨r0, s0, ⟨rfl, h0⟩ | ⟨i, hi, rfl⟩⟩ := sweep0_run (v := offs c.O.length c.R0 c.R1) hg hrow hc
        · rw [s0, jn_inl]
          obtain ⟨r1, s1, ⟨rfl, h1⟩ | ⟨i, hi, rfl⟩⟩ := sweep1_run (v := offs c.O.length c.R0 c.R1) hg hrow hc
          · rw [s1, jn_inl]
            obtain ⟨a, ba, ma⟩ := bad_run (G := c.gph 0) (pr := c.P) (q := 1) (by rw [gph_len]; exact hN) (gph_row hg hrow 0)
            obtain ⟨b, bb, mb⟩ := bad_run (G := c.gph 1) (pr := c.P) (q := 0) (by rw [gph_len]; exact hN) (gph_row hg hrow 1)
            rw [ba]
            simp only [Option.bind_some]
            by_cases ha : 0 ≤ a
            · rw [if_pos ha]
              exact ⟨_, rfl, .cyc0 a hg hno hoff h0 h1 ma ha⟩
            · rw [if_neg ha, bb]
              simp only [Option.bind_some]
              by_cases hb : 0 ≤ b
              · rw [if_pos hb]
                exact ⟨_, rfl, .cyc1 a b hg hno hoff h0 h1 ma (by omega) mb hb⟩
              · rw [if_neg hb]
                exact ⟨_, rfl, .ok a b hg hno hoff h0 h1 ma (by omega) mb (by omega)⟩
          · rw [s1]
            exact ⟨_, rfl, .step1 i hg hno hoff h0 hi⟩
        · rw [s0]
          exact ⟨_, rfl, .step0 i hg hno hoff hi⟩
      · rw [if_neg hoff]
        exact ⟨_, rfl, .off hg hno hoff⟩
  · rw [if_neg (fun h => hg (e1.1 h))]
    exact ⟨_, rfl, .arg hg⟩
end
end Go.Bw
