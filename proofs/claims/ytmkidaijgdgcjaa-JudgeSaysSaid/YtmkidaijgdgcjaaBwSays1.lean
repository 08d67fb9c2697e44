/- ref16.Judge: the verdict, as its model tells it. Conditions: none. -/
import Derived.Test.YtmkidaijgdgcjaaBwShown16
import Derived.Test.YtmkidaijgdgcjaaBwRef15
import Derived.Test.YtmkidaijgdgcjaaBwJSayA
set_option linter.unusedVariables false
set_option linter.unusedSimpArgs false
set_option linter.unusedSectionVars false
namespace Go.Bw
open Go Go.RowKit Tj

section
variable {O P : List Int} {M : List (List Int)}
theorem r09_right1 {i : Int} (lo : O.length = M.length) (hl : ((gt M i).length : Int) ≤ 9223372036854775807) :
    ∃ r, bailiffref09_Right.l1 O M i (-1) 0 = some r ∧ ((r = .inl () ∧ Rise M.length (gt M i)) ∨ (r = .inr (.inr (.inr (16, i))) ∧ ¬ Rise M.length (gt M i))) := by
  refine iter_meas (body := fun t_ : Int × Int => bailiffref09_Right.l1b O M i t_.1 t_.2)
    (fun s => 0 ≤ s.2 ∧ s.2 ≤ ((gt M i).length : Int) ∧ s.1 = (if s.2 = 0 then -1 else gt (gt M i) (s.2 - 1)) ∧ ∀ j : Int, 0 ≤ j → j < s.2 → (0 ≤ gt (gt M i) j ∧ gt (gt M i) j < (M.length : Int)) ∧ (0 < j → gt (gt M i) (j - 1) < gt (gt M i) j))
    (fun r => (r = .inl () ∧ Rise M.length (gt M i)) ∨ (r = .inr (.inr (.inr (16, i))) ∧ ¬ Rise M.length (gt M i))) (fun s => ((gt M i).length - s.2).toNat)
    (fun ⟨last, k⟩ ⟨h0, h1, h2, h3⟩ => ?_) (-1, 0) ⟨Int.le_refl _, by dsimp only; omega, rfl, fun j a b => by dsimp only at b; omega⟩
  dsimp only at h0 h1 h2 h3 ⊢
  unfold bailiffref09_Right.l1b
  by_cases hk : k < ((gt M i).length : Int)
  · rw [if_pos hk, if_pos ⟨h0, hk⟩, two_jn]
    by_cases hb : gt (gt M i) k ≤ last ∨ (O.length : Int) ≤ gt (gt M i) k
    · left
      rw [if_pos (decide_eq_true hb)]
      refine ⟨_, rfl, .inr ⟨rfl, fun h => ?_⟩⟩
      obtain ⟨b0, b1⟩ := h k h0 hk
      by_cases hz : k = 0
      · rw [if_pos hz] at h2; omega
      · rw [if_neg hz] at h2; have := b1 (by omega); omega
    · right
      rw [if_neg (by simp; omega), wrap64 (x := k + 1) (by omega) (by omega)]
      refine ⟨_, rfl, ⟨by dsimp only; omega, by dsimp only; omega, ?_, fun j a b => ?_⟩, by dsimp only; omega⟩
      · dsimp only
        rw [if_neg (by omega), show k + 1 - 1 = k from by omega]
      · dsimp only at b
        by_cases hj : j = k
        · subst hj
          by_cases hz : j = 0
          · rw [if_pos hz] at h2; exact ⟨by omega, fun h => by omega⟩
          · rw [if_neg hz] at h2
            have := (h3 (j - 1) (by omega) (by omega)).1
            exact ⟨by omega, fun h => by omega⟩
        · exact h3 j a (by omega)
  · left
    rw [if_neg hk]
    exact ⟨_, rfl, .inl ⟨rfl, fun j a b => h3 j a (by omega)⟩⟩
theorem r09_right0 (lo : O.length = M.length) (lp : P.length = M.length) (hN : (M.length : Int) ≤ 200) (hrow : ∀ r ∈ M, (r.length : Int) ≤ 9223372036854775807) :
    ∃ r, bailiffref09_Right.l0 O P M 0 = some r ∧ ((r = .inl () ∧ ∀ i, Tj.Ok M i → GR1 O P M i) ∨ (∃ e at_, r = .inr (e, at_) ∧ e ≠ 0 ∧ ∃ i, Tj.Ok M i ∧ ¬ GR1 O P M i)) := by
  refine iter_meas (body := fun t_ : Int => bailiffref09_Right.l0b O P M t_)
    (fun k => 0 ≤ k ∧ k ≤ (M.length : Int) ∧ ∀ j : Int, 0 ≤ j → j < k → GR1 O P M j)
    (fun r => (r = .inl () ∧ ∀ i, Tj.Ok M i → GR1 O P M i) ∨ (∃ e at_, r = .inr (e, at_) ∧ e ≠ 0 ∧ ∃ i, Tj.Ok M i ∧ ¬ GR1 O P M i)) (fun k => (M.length - k).toNat)
    (fun k ⟨h0, h1, h2⟩ => ?_) 0 ⟨Int.le_refl _, by omega, fun j a b => by omega⟩
  unfold bailiffref09_Right.l0b
  by_cases hk : k < (M.length : Int)
  · have hok : Tj.Ok M k := ⟨h0, hk⟩
    have hown : ∀ {ρ : Type} (f : Bool → Option ρ), jn (if gt O k = 0 then some (.inl false) else some (.inl (!(decide (gt O k = 1))))) f = f (decide (¬ (gt O k = 0 ∨ gt O k = 1))) := fun f => by
      by_cases h : gt O k = 0
      · rw [if_pos h, jn_inl, decide_eq_false (by simp [h])]
      · rw [if_neg h, jn_inl]
        congr 1
        by_cases h' : gt O k = 1 <;> simp [h, h']
    rw [if_pos (by omega), if_pos ⟨h0, by omega⟩, hown]
    by_cases hb : gt O k = 0 ∨ gt O k = 1
    · rw [if_neg (by simp [hb]), if_pos ⟨h0, by omega⟩, two_jn]
      by_cases hc : gt P k < 0 ∨ 7 < gt P k
      · left
        rw [if_pos (decide_eq_true hc)]
        exact ⟨_, rfl, .inr ⟨_, _, rfl, by decide, k, hok, fun h => by have := h.2.1; omega⟩⟩
      · rw [if_neg (by simp; omega), if_pos ⟨h0, hk⟩]
        by_cases hd : ((gt M k).length : Int) = 0
        · left
          rw [if_pos hd]
          exact ⟨_, rfl, .inr ⟨_, _, rfl, by decide, k, hok, fun h => h.2.2.1 (List.eq_nil_of_length_eq_zero (by omega))⟩⟩
        · rw [if_neg hd]
          obtain ⟨r, hr, ⟨rfl, hq⟩ | ⟨rfl, hq⟩⟩ := r09_right1 (O := O) (M := M) (i := k) lo (hrow _ (gt_mem h0 hk))
          · right
            rw [hr, jn_inl, wrap64 (x := k + 1) (by omega) (by omega)]
            refine ⟨_, rfl, ⟨by omega, by omega, fun j a b => ?_⟩, by omega⟩
            by_cases hj : j = k
            · subst hj; exact ⟨by omega, by omega, fun e => hd (by rw [e]; rfl), hq⟩
            · exact h2 j a (by omega)
          · left
            rw [hr]
            exact ⟨_, rfl, .inr ⟨_, _, rfl, by decide, k, hok, fun h => hq h.2.2.2⟩⟩
    · left
      rw [if_pos (decide_eq_true hb)]
      exact ⟨_, rfl, .inr ⟨_, _, rfl, by decide, k, hok, fun h => by have := h.1; omega⟩⟩
  · left
    rw [if_neg (by omega)]
    exact ⟨_, rfl, .inl ⟨rfl, fun i hi => h2 i hi.1 (by have := hi.2; omega)⟩⟩
theorem is_run (hrow : ∀ r ∈ M, (r.length : Int) ≤ 9223372036854775807) : ∃ b, bailiffref09_Is.f O P M = some b ∧ (b = true ↔ GR O P M) := by
  unfold bailiffref09_Is.f bailiffref09_Right.f
  have hj : ∀ {ρ : Type} (f : Bool → Option ρ), jn (if (P.length : Int) = (O.length : Int) then some (.inl (!(decide ((M.length : Int) = (O.length : Int))))) else some (.inl true)) f = f (decide (¬ (O.length = M.length ∧ P.length = M.length))) := fun f => by
    by_cases h : (P.length : Int) = (O.length : Int)
    · rw [if_pos h, jn_inl]
      congr 1
      by_cases h' : (M.length : Int) = (O.length : Int)
      · rw [decide_eq_true h', decide_eq_false (by intro hh; exact hh ⟨by omega, by omega⟩)]; rfl
      · rw [decide_eq_false h', decide_eq_true (by intro hh; exact h' (by omega))]; rfl
    · rw [if_neg h, jn_inl, decide_eq_true (by intro hh; exact h (by omega))]
  rw [hj]
  by_cases hl : O.length = M.length ∧ P.length = M.length
  · rw [if_neg (by simp [hl]), two_jn]
    by_cases hm : (O.length : Int) = 0 ∨ 200 < (O.length : Int)
    · rw [if_pos (decide_eq_true hm)]
      exact ⟨_, rfl, fun h => by simp at h, fun h => by have := h.pos; have := h.many; omega⟩
    · rw [if_neg (by rw [decide_eq_true_iff]; exact hm)]
      obtain ⟨r, hr, ⟨rfl, hq⟩ | ⟨e, at_, rfl, he, i, hi, hq⟩⟩ := r09_right0 hl.1 hl.2 (by omega) hrow
      · rw [hr, jn_inl]
        exact ⟨_, rfl, fun _ => ⟨hl.1, hl.2, by omega, by omega, fun i hi => (hq i hi).1, fun i hi => (hq i hi).2.1, fun i hi => (hq i hi).2.2.1, fun i hi => (hq i hi).2.2.2⟩, fun _ => rfl⟩
      · rw [hr]
        exact ⟨_, rfl, fun h => absurd (of_decide_eq_true h) he, fun h => absurd ⟨h.own i hi, h.prio i hi, h.ne i hi, h.rise i hi⟩ hq⟩
  · rw [if_pos (decide_eq_true hl)]
    exact ⟨_, rfl, fun h => by simp at h, fun h => absurd ⟨h.lo, h.lp⟩ hl⟩
end
theorem find_first {p : Int → Bool} {l : List Int} {k : Int} (h0 : 0 ≤ k) (h1 : k < (l.length : Int)) (hp : p (gt l k) = true) (hno : ∀ x ∈ l.take k.toNat, p x = false) : l.find? p = some (gt l k) := by
  rw [List.find?_eq_some_iff_append]
  refine ⟨hp, l.take k.toNat, l.drop (k.toNat + 1), ?_, fun a ha => by rw [hno a ha]; rfl⟩
  have hi : k.toNat < l.length := by omega
  have hg : l[k.toNat] = gt l k := by have := gt_some h0 h1; rw [List.getElem?_eq_getElem hi] at this; exact Option.some.inj this
  rw [← hg, ← List.drop_eq_getElem_cons hi, List.take_append_drop]
theorem off16_1 {n : Int} {l : List Int} (hl : (l.length : Int) ≤ 9223372036854775807) :
    bailiffref16_part.l1 n l 0 = some (match l.find? (oor n) with | none => .inl () | some x => .inr (true, 19, 0, x)) := by
  obtain ⟨r, hr, rfl⟩ := iter_meas (body := fun t_ : Int => bailiffref16_part.l1b n l t_)
    (fun k => 0 ≤ k ∧ k ≤ (l.length : Int) ∧ ∀ x ∈ l.take k.toNat, oor n x = false)
    (fun r => r = (match l.find? (oor n) with | none => .inl () | some x => .inr (true, 19, 0, x))) (fun k => (l.length - k).toNat)
    (fun k ⟨h0, h1, h2⟩ => by
      unfold bailiffref16_part.l1b
      by_cases hk : k < (l.length : Int)
      · rw [if_pos hk, if_pos ⟨h0, hk⟩, two_jn]
        by_cases hb : gt l k < 0 ∨ n ≤ gt l k
        · left
          rw [if_pos (decide_eq_true hb), find_first h0 hk (oor_true.2 (by omega)) h2]
          exact ⟨_, rfl, rfl⟩
        · right
          rw [if_neg (by simp; omega), wrap64 (x := k + 1) (by omega) (by omega)]
          refine ⟨_, rfl, ⟨by omega, by omega, fun x hx => ?_⟩, by omega⟩
          rw [show (k + 1).toNat = k.toNat + 1 from by omega, List.take_add_one, gt_some h0 hk] at hx
          rcases List.mem_append.1 hx with h | h
          · exact h2 x h
          · simp at h; subst h; exact oor_false.2 (by omega)
      · left
        rw [if_neg hk]
        rw [List.take_of_length_le (by omega)] at h2
        rw [List.find?_eq_none.2 (fun x hx => by rw [h2 x hx]; simp)]
        exact ⟨_, rfl, rfl⟩) 0 ⟨Int.le_refl _, by omega, by simp⟩
  exact hr
theorem off16_2 {n : Int} {l : List Int} (hl : (l.length : Int) ≤ 9223372036854775807) :
    bailiffref16_part.l2 n l 0 = some (match l.find? (oor n) with | none => .inl () | some x => .inr (true, 19, 1, x)) := by
  obtain ⟨r, hr, rfl⟩ := iter_meas (body := fun t_ : Int => bailiffref16_part.l2b n l t_)
    (fun k => 0 ≤ k ∧ k ≤ (l.length : Int) ∧ ∀ x ∈ l.take k.toNat, oor n x = false)
    (fun r => r = (match l.find? (oor n) with | none => .inl () | some x => .inr (true, 19, 1, x))) (fun k => (l.length - k).toNat)
    (fun k ⟨h0, h1, h2⟩ => by
      unfold bailiffref16_part.l2b
      by_cases hk : k < (l.length : Int)
      · rw [if_pos hk, if_pos ⟨h0, hk⟩, two_jn]
        by_cases hb : gt l k < 0 ∨ n ≤ gt l k
        · left
          rw [if_pos (decide_eq_true hb), find_first h0 hk (oor_true.2 (by omega)) h2]
          exact ⟨_, rfl, rfl⟩
        · right
          rw [if_neg (by simp; omega), wrap64 (x := k + 1) (by omega) (by omega)]
          refine ⟨_, rfl, ⟨by omega, by omega, fun x hx => ?_⟩, by omega⟩
          rw [show (k + 1).toNat = k.toNat + 1 from by omega, List.take_add_one, gt_some h0 hk] at hx
          rcases List.mem_append.1 hx with h | h
          · exact h2 x h
          · simp at h; subst h; exact oor_false.2 (by omega)
      · left
        rw [if_neg hk]
        rw [List.take_of_length_le (by omega)] at h2
        rw [List.find?_eq_none.2 (fun x hx => by rw [h2 x hx]; simp)]
        exact ⟨_, rfl, rfl⟩) 0 ⟨Int.le_refl _, by omega, by simp⟩
  exact hr
theorem odd16_run {n : Int} {R0 R1 : List Int} (hn : n ≤ 1099511627776) (l0 : (R0.length : Int) ≤ 4611686018427387903) (l1 : (R1.length : Int) ≤ 4611686018427387903) :
    ∃ r, bailiffref16_part.l0 n R0 R1 0 = some r ∧ ((r = .inl () ∧ ∀ i : Int, 0 ≤ i → i < n → ¬ Odd R0 R1 i) ∨ ∃ i, Fst n (Odd R0 R1) i ∧ r = .inr (true, 19, 0, i)) := by
  by_cases hn0 : 0 ≤ n
  · refine iter_meas (body := fun t_ : Int => bailiffref16_part.l0b n R0 R1 t_)
      (fun k => 0 ≤ k ∧ k ≤ n ∧ ∀ i : Int, 0 ≤ i → i < k → ¬ Odd R0 R1 i)
      (fun r => (r = .inl () ∧ ∀ i : Int, 0 ≤ i → i < n → ¬ Odd R0 R1 i) ∨ ∃ i, Fst n (Odd R0 R1) i ∧ r = .inr (true, 19, 0, i)) (fun k => (n - k).toNat)
      (fun k ⟨h0, h1, h2⟩ => ?_) 0 ⟨Int.le_refl _, hn0, fun i a b => by omega⟩
    unfold bailiffref16_part.l0b
    by_cases hk : k < n
    · have c0 := List.count_le_length (a := k) (l := R0)
      have c1 := List.count_le_length (a := k) (l := R1)
      rw [if_pos hk, count_run (by omega), count_run (by omega)]
      simp only [Option.bind_some]
      rw [wrap64 (x := (R0.count k : Int) + (R1.count k : Int)) (by omega) (by omega)]
      by_cases ho : (R0.count k : Int) + (R1.count k : Int) = 1
      · right
        rw [if_pos ho, wrap64 (x := k + 1) (by omega) (by omega)]
        refine ⟨_, rfl, ⟨by omega, by omega, fun i a b => ?_⟩, by omega⟩
        by_cases hi : i = k
        · subst hi; exact fun h => h ho
        · exact h2 i a (by omega)
      · left
        rw [if_neg ho]
        exact ⟨_, rfl, .inr ⟨k, ⟨⟨h0, hk⟩, ho, h2⟩, rfl⟩⟩
    · left
      rw [if_neg hk]
      exact ⟨_, rfl, .inl ⟨rfl, fun i a b => h2 i a (by omega)⟩⟩
  · refine ⟨.inl (), ?_, .inl ⟨rfl, fun i a b => by omega⟩⟩
    unfold bailiffref16_part.l0
    rw [iter_eq]
    unfold bailiffref16_part.l0b
    rw [if_neg (by omega)]
    rfl
theorem part16_run {n : Int} {R0 R1 M0 M1 : List Int} (hn : n ≤ 1099511627776) (l0 : (R0.length : Int) ≤ 4611686018427387903) (l1 : (R1.length : Int) ≤ 4611686018427387903) :
    ∃ v, bailiffref16_part.f n R0 R1 M0 M1 = some v ∧ ((∃ i, Fst n (Odd R0 R1) i ∧ v = (true, 19, 0, i)) ∨ ((∀ i : Int, 0 ≤ i → i < n → ¬ Odd R0 R1 i) ∧ (((offs n R0 R1).1 ≠ 0 ∧ v = (true, offs n R0 R1)) ∨ ((offs n R0 R1).1 = 0 ∧ v = (false, 0, 0, 0))))) := by
  unfold bailiffref16_part.f
  obtain ⟨r, hr, ⟨rfl, hq⟩ | ⟨i, hi, rfl⟩⟩ := odd16_run (n := n) (R0 := R0) (R1 := R1) hn l0 l1
  · rw [hr, jn_inl, off16_1 (by omega)]
    unfold offs off2 off1
    cases h0 : R0.find? (oor n) with
    | some x => exact ⟨_, rfl, .inr ⟨hq, .inl ⟨by simp, by simp⟩⟩⟩
    | none =>
      dsimp only
      rw [jn_inl, off16_2 (by omega)]
      cases h1 : R1.find? (oor n) with
      | some x => exact ⟨_, rfl, .inr ⟨hq, .inl ⟨by simp, by simp⟩⟩⟩
      | none => exact ⟨_, rfl, .inr ⟨hq, .inr ⟨by simp, rfl⟩⟩⟩
  · rw [hr]
    exact ⟨_, rfl, .inl ⟨i, hi, rfl⟩⟩
theorem inside_run {n : Nat} {l : List Int} (hn : (n : Int) ≤ 200) (hl : (l.length : Int) ≤ 9223372036854775807) (hx : ∀ x ∈ l, 0 ≤ x ∧ x < (n : Int)) :
    ∃ inn, bailiffref16_inside.f (n : Int) l = some inn ∧ inn.length = n ∧ ∀ i : Int, 0 ≤ i → i < (n : Int) → gt inn i = decide (i ∈ l) := by
  obtain ⟨r, hr, inn, rfl, h1, h2⟩ := iter_meas (body := fun t_ : (List Bool) × Int => bailiffref16_inside.l0b (n : Int) l t_.1 t_.2)
    (fun s => 0 ≤ s.2 ∧ s.2 ≤ (l.length : Int) ∧ s.1.length = n ∧ ∀ i : Int, 0 ≤ i → i < (n : Int) → gt s.1 i = decide (i ∈ l.take s.2.toNat))
    (fun r => ∃ inn, r = .inl inn ∧ inn.length = n ∧ ∀ i : Int, 0 ≤ i → i < (n : Int) → gt inn i = decide (i ∈ l)) (fun s => (l.length - s.2).toNat)
    (fun ⟨inn, k⟩ ⟨h0, h1, h2, h3⟩ => by
      dsimp only at h0 h1 h2 h3 ⊢
      unfold bailiffref16_inside.l0b
      by_cases hk : k < (l.length : Int)
      · right
        obtain ⟨x0, x1⟩ := hx _ (gt_mem h0 hk)
        rw [if_pos hk, if_pos ⟨h0, hk⟩, if_pos (by simp; omega), wrap64 (x := k + 1) (by omega) (by omega)]
        refine ⟨_, rfl, ⟨by dsimp only; omega, by dsimp only; omega, by dsimp only; rw [st_len]; exact h2, fun i a b => ?_⟩, by dsimp only; omega⟩
        dsimp only
        rw [gt_st x0 (by omega) a, show (k + 1).toNat = k.toNat + 1 from by omega, List.take_add_one, gt_some h0 hk]
        by_cases he : i = gt l k
        · rw [if_pos he, decide_eq_true (by simp [he])]
        · rw [if_neg he, h3 i a b]
          exact decide_eq_decide.2 (by simp [he])
      · left
        rw [if_neg hk]
        rw [List.take_of_length_le (by omega)] at h3
        exact ⟨_, rfl, inn, rfl, h2, h3⟩) (List.replicate n false, 0) ⟨Int.le_refl _, by dsimp only; omega, by simp, fun i a b => by
      have := gt_mem (xs := List.replicate n false) a (by simp; omega)
      rw [(List.mem_replicate.1 this).2]; simp⟩
  have hl : bailiffref16_inside.l0 (n : Int) l (List.replicate (n : Int).toNat false) 0 = some (.inl inn) := hr
  unfold bailiffref16_inside.f
  rw [if_pos ⟨by omega, by omega⟩, hl, jn_inl]
  exact ⟨inn, rfl, h1, h2⟩
section
variable {c : Cl}
theorem move16_run {p i : Int} (hp : p = 0 ∨ p = 1) (hi : 0 ≤ i) : bailiffref16_Move.f c.R0 c.R1 c.M0 c.M1 p i = some (c.mv p i) := by
  unfold bailiffref16_Move.f Cl.mv Cl.A
  rcases hp with rfl | rfl
  · have e : (if (0 : Int) = 0 then c.M0 else c.M1) = c.M0 := if_pos rfl
    rw [e, if_pos ⟨by omega, by omega⟩, if_pos rfl, jn_inl]
    by_cases h : i < (c.M0.length : Int)
    · rw [if_neg (by simp; omega), if_pos (show (0 : Int) ≤ 0 ∧ (0 : Int) < 2 by decide), if_pos rfl, if_pos (show 0 ≤ i ∧ i < (c.M0.length : Int) from ⟨hi, h⟩), jn_inl, if_pos h]
    · rw [if_pos (by simp; omega), if_neg h]
  · have e : (if (1 : Int) = 0 then c.M0 else c.M1) = c.M1 := if_neg (by decide)
    have h1 : ¬ (1 : Int) = 0 := by decide
    rw [e, if_pos ⟨by omega, by omega⟩, if_neg h1, jn_inl]
    by_cases h : i < (c.M1.length : Int)
    · rw [if_neg (by simp; omega), if_pos (show (0 : Int) ≤ 1 ∧ (1 : Int) < 2 by decide), if_neg h1, if_pos (show 0 ≤ i ∧ i < (c.M1.length : Int) from ⟨hi, h⟩), jn_inl, if_pos h]
    · rw [if_pos (by simp; omega), if_neg h]
theorem leave16_run {p i : Int} {inn : List Bool} (h : GR c.O c.P c.M) (hrow : ∀ r ∈ c.M, (r.length : Int) ≤ 9223372036854775807) (hil : inn.length = c.O.length) (hin : ∀ j : Int, 0 ≤ j → j < (c.O.length : Int) → gt inn j = decide (j ∈ c.R p)) (h0 : 0 ≤ i) (h1 : i < (c.O.length : Int)) :
    bailiffref16_step.l0 c.M inn i 0 = some (if ∀ m ∈ gt c.M i, m ∈ c.R p then .inl () else .inr 20) := by
  have hlo := h.lo
  have hr := gr_range h h0 h1
  have hl := hrow _ (gt_mem (xs := c.M) h0 (by omega))
  obtain ⟨r, e, rfl⟩ := iter_meas (body := fun t_ : Int => bailiffref16_step.l0b c.M inn i t_)
    (fun k => 0 ≤ k ∧ k ≤ ((gt c.M i).length : Int) ∧ ∀ m ∈ (gt c.M i).take k.toNat, m ∈ c.R p)
    (fun r => r = (if ∀ m ∈ gt c.M i, m ∈ c.R p then .inl () else .inr 20)) (fun k => ((gt c.M i).length - k).toNat)
    (fun k ⟨a0, a1, a2⟩ => by
      unfold bailiffref16_step.l0b
      rw [if_pos ⟨h0, by omega⟩]
      by_cases hk : k < ((gt c.M i).length : Int)
      · have hm := gt_mem a0 hk
        obtain ⟨b0, b1⟩ := hr _ hm
        rw [if_pos hk, if_pos ⟨a0, hk⟩, if_pos ⟨b0, by omega⟩, hin _ b0 b1]
        by_cases hh : gt (gt c.M i) k ∈ c.R p
        · right
          rw [if_pos (decide_eq_true hh), wrap64 (x := k + 1) (by omega) (by omega)]
          refine ⟨_, rfl, ⟨by omega, by omega, fun m hm => ?_⟩, by omega⟩
          rw [show (k + 1).toNat = k.toNat + 1 from by omega, List.take_add_one, gt_some a0 hk] at hm
          rcases List.mem_append.1 hm with h | h
          · exact a2 m h
          · simp at h; rw [h]; exact hh
        · left
          rw [if_neg (by simp [hh]), if_neg (fun hA => hh (hA _ hm))]
          exact ⟨_, rfl, rfl⟩
      · left
        rw [if_neg hk]
        rw [List.take_of_length_le (by omega)] at a2
        rw [if_pos a2]
        exact ⟨_, rfl, rfl⟩) 0 ⟨Int.le_refl _, by omega, by simp⟩
  exact e
theorem step16_run {p i : Int} {inn : List Bool} (h : GR c.O c.P c.M) (hrow : ∀ r ∈ c.M, (r.length : Int) ≤ 9223372036854775807) (hp : p = 0 ∨ p = 1) (hil : inn.length = c.O.length) (hin : ∀ j : Int, 0 ≤ j → j < (c.O.length : Int) → gt inn j = decide (j ∈ c.R p)) (h0 : 0 ≤ i) (h1 : i < (c.O.length : Int)) :
    bailiffref16_step.f c.O c.P c.M c.R0 c.R1 c.M0 c.M1 p inn i = some (c.stp p i).2 := by
  have hlo := h.lo
  unfold bailiffref16_step.f Cl.stp
  rw [if_pos ⟨h0, h1⟩]
  by_cases ho : gt c.O i = p
  · rw [if_pos ho, if_pos ho, move16_run hp h0]
    simp only [Option.bind_some]
    rw [if_pos ⟨h0, by omega⟩, count_run (hrow _ (gt_mem h0 (by omega)))]
    simp only [Option.bind_some]
    by_cases hm : c.mv p i ∈ gt c.M i
    · obtain ⟨b0, b1⟩ := gr_range h h0 h1 _ hm
      rw [if_neg (fun e => (cnt_zero.1 e) hm), if_pos ⟨b0, by omega⟩, if_pos hm, hin _ b0 b1]
      by_cases hr : c.mv p i ∈ c.R p
      · rw [if_pos (decide_eq_true hr), if_pos hr]
      · rw [if_neg (by simp [hr]), if_neg hr]
    · rw [if_pos (cnt_zero.2 hm), if_neg hm]
  · rw [if_neg ho, if_neg ho, leave16_run h hrow hil hin h0 h1]
    by_cases hA : ∀ m ∈ gt c.M i, m ∈ c.R p
    · rw [if_pos hA, if_pos hA, jn_inl]
    · rw [if_neg hA, if_neg hA]; rfl
theorem sweep16_0 {inn : List Bool} (h : GR c.O c.P c.M) (hrow : ∀ r ∈ c.M, (r.length : Int) ≤ 9223372036854775807) (hil : inn.length = c.O.length) (hin : ∀ j : Int, 0 ≤ j → j < (c.O.length : Int) → gt inn j = decide (j ∈ c.R 0)) :
    ∃ r, bailiffref16_Judge.l0 c.O c.P c.M c.R0 c.R1 c.M0 c.M1 inn 0 = some r ∧ ((r = .inl () ∧ ∀ i, 0 ≤ i → i < (c.O.length : Int) → ¬ c.BadS 0 i) ∨ ∃ i, Fst c.O.length (c.BadS 0) i ∧ r = .inr ((c.stp 0 i).2, 0, i)) := by
  have hlo := h.lo
  have hmany := h.many
  refine iter_meas (body := fun t_ : Int => bailiffref16_Judge.l0b c.O c.P c.M c.R0 c.R1 c.M0 c.M1 inn t_)
    (fun k => 0 ≤ k ∧ k ≤ (c.O.length : Int) ∧ ∀ i : Int, 0 ≤ i → i < k → ¬ c.BadS 0 i)
    (fun r => (r = .inl () ∧ ∀ i, 0 ≤ i → i < (c.O.length : Int) → ¬ c.BadS 0 i) ∨ ∃ i, Fst c.O.length (c.BadS 0) i ∧ r = .inr ((c.stp 0 i).2, 0, i)) (fun k => (c.O.length - k).toNat)
    (fun k ⟨h0, h1, h2⟩ => ?_) 0 ⟨Int.le_refl _, by omega, fun i a b => by omega⟩
  unfold bailiffref16_Judge.l0b
  by_cases hk : k < (c.O.length : Int)
  · rw [if_pos hk, if_pos (by simp; omega), hin k h0 hk]
    have go : ¬ c.BadS 0 k → ∀ i : Int, 0 ≤ i → i < k + 1 → ¬ c.BadS 0 i := fun hb i a b => by
      by_cases hi : i = k
      · subst hi; exact hb
      · exact h2 i a (by omega)
    by_cases hm : k ∈ c.R 0
    · rw [if_pos (decide_eq_true hm), step16_run h hrow (by decide) hil hin h0 hk]
      simp only [Option.bind_some]
      by_cases hs : (c.stp 0 k).2 = 0
      · right
        rw [if_pos hs, jn_inl, wrap64 (x := k + 1) (by omega) (by omega)]
        exact ⟨_, rfl, ⟨by omega, by omega, go fun hb => hb.2 hs⟩, by omega⟩
      · left
        rw [if_neg hs]
        exact ⟨_, rfl, .inr ⟨k, ⟨⟨h0, hk⟩, ⟨hm, hs⟩, h2⟩, rfl⟩⟩
    · right
      rw [if_neg (by simp [hm]), jn_inl, wrap64 (x := k + 1) (by omega) (by omega)]
      exact ⟨_, rfl, ⟨by omega, by omega, go fun hb => hm hb.1⟩, by omega⟩
  · left
    rw [if_neg hk]
    exact ⟨_, rfl, .inl ⟨rfl, fun i a b => h2 i a (by omega)⟩⟩
theorem graph16_0 {inn : List Bool} (h : GR c.O c.P c.M) (hil : inn.length = c.O.length) (hin : ∀ j : Int, 0 ≤ j → j < (c.O.length : Int) → gt inn j = decide (j ∈ c.R 0)) (hno : ∀ i, 0 ≤ i → i < (c.O.length : Int) → ¬ c.BadS 0 i) :
    bailiffref16_Judge.l2 c.O c.M c.R0 c.R1 c.M0 c.M1 inn (List.replicate (c.O.length : Int).toNat []) 0 = some (.inl (c.gph 0)) := by
  have hlo := h.lo
  have hmany := h.many
  obtain ⟨r, e, rfl⟩ := iter_meas (body := fun t_ : (List (List Int)) × Int => bailiffref16_Judge.l2b c.O c.M c.R0 c.R1 c.M0 c.M1 inn t_.1 t_.2)
    (fun s => 0 ≤ s.2 ∧ s.2 ≤ (c.O.length : Int) ∧ s.1.length = c.O.length ∧ ∀ i : Int, 0 ≤ i → i < (c.O.length : Int) → gt s.1 i = if i < s.2 ∧ i ∈ c.R 0 then (c.stp 0 i).1 else [])
    (fun r => r = .inl (c.gph 0)) (fun s => (c.O.length - s.2).toNat)
    (fun ⟨g, k⟩ ⟨h0, h1, h2, h3⟩ => by
      dsimp only at h0 h1 h2 h3 ⊢
      unfold bailiffref16_Judge.l2b
      by_cases hk : k < (c.O.length : Int)
      · right
        rw [if_pos hk, if_pos (by simp; omega), hin k h0 hk]
        have fin : ∀ {x : List Int}, (k ∈ c.R 0 → x = (c.stp 0 k).1) → k ∈ c.R 0 → (∀ i : Int, 0 ≤ i → i < (c.O.length : Int) → gt (st g k x) i = if i < k + 1 ∧ i ∈ c.R 0 then (c.stp 0 i).1 else []) := fun hx hm i a b => by
          rw [gt_st h0 (by omega) a]
          by_cases hi : i = k
          · subst hi; rw [if_pos rfl, if_pos ⟨by omega, hm⟩, hx hm]
          · rw [if_neg hi, h3 i a b]
            by_cases hh : i < k ∧ i ∈ c.R 0
            · rw [if_pos hh, if_pos ⟨by omega, hh.2⟩]
            · rw [if_neg hh, if_neg (fun h' => hh ⟨by omega, h'.2⟩)]
        by_cases hm : k ∈ c.R 0
        · have hs : (c.stp 0 k).2 = 0 := Classical.byContradiction fun hs => hno k h0 hk ⟨hm, hs⟩
          rw [if_pos (decide_eq_true hm), if_pos ⟨h0, hk⟩, jn_inl]
          by_cases ho : gt c.O k = 0
          · rw [if_pos (decide_eq_true ho), move16_run (by decide) h0]
            simp only [Option.bind_some]
            rw [if_pos (by simp; omega), if_pos (decide_eq_true hm), if_pos ⟨h0, hk⟩, jn_inl, if_neg (by simp [ho]), jn_inl, wrap64 (x := k + 1) (by omega) (by omega)]
            refine ⟨_, rfl, ⟨by dsimp only; omega, by dsimp only; omega, by dsimp only; rw [st_len]; exact h2, fin (fun _ => ?_) hm⟩, by dsimp only; omega⟩
            unfold Cl.stp at hs ⊢
            rw [if_pos ho] at hs ⊢
            by_cases ha : c.mv 0 k ∈ gt c.M k
            · rw [if_pos ha] at hs ⊢
              by_cases hb : c.mv 0 k ∈ c.R 0
              · rw [if_pos hb]
              · rw [if_neg hb] at hs; simp at hs
            · rw [if_neg ha] at hs; simp at hs
          · rw [if_neg (by simp [ho]), if_pos (decide_eq_true hm), if_pos ⟨h0, hk⟩, jn_inl, if_pos (by simp [ho]), if_pos ⟨h0, by omega⟩, if_pos (by simp; omega), jn_inl, wrap64 (x := k + 1) (by omega) (by omega)]
            refine ⟨_, rfl, ⟨by dsimp only; omega, by dsimp only; omega, by dsimp only; rw [st_len]; exact h2, fin (fun _ => ?_) hm⟩, by dsimp only; omega⟩
            unfold Cl.stp at hs ⊢
            rw [if_neg ho] at hs ⊢
            by_cases ha : ∀ m ∈ gt c.M k, m ∈ c.R 0
            · rw [if_pos ha]
            · rw [if_neg ha] at hs; simp at hs
        · rw [if_neg (by simp [hm]), jn_inl, if_neg (by simp), if_neg (by simp [hm]), jn_inl, if_neg (by simp), jn_inl, wrap64 (x := k + 1) (by omega) (by omega)]
          refine ⟨_, rfl, ⟨by dsimp only; omega, by dsimp only; omega, h2, fun i a b => ?_⟩, by dsimp only; omega⟩
          dsimp only
          rw [h3 i a b]
          by_cases hh : i < k ∧ i ∈ c.R 0
          · rw [if_pos hh, if_pos ⟨by omega, hh.2⟩]
          · rw [if_neg hh, if_neg (fun h' => hh ⟨by
              have : i ≠ k := fun e => hm (e ▸ h'.2)
              omega, h'.2⟩)]
      · left
        rw [if_neg hk]
        refine ⟨_, rfl, ?_⟩
        rw [gph_of (p := 0) h2 (fun i b0 b1 => by
          rw [h3 i b0 b1]
          by_cases hh : i ∈ c.R 0
          · rw [if_pos ⟨by omega, hh⟩, if_pos hh]
          · rw [if_neg (fun h' => hh h'.2), if_neg hh])]) (List.replicate (c.O.length : Int).toNat [], 0) ⟨Int.le_refl _, by dsimp only; omega, by simp, fun i a b => by
      have := gt_mem (xs := List.replicate (c.O.length : Int).toNat ([] : List Int)) a (by simp; omega)
      rw [(List.mem_replicate.1 this).2, if_neg (by dsimp only; omega)]⟩
  exact e
theorem sweep16_1 {inn : List Bool} (h : GR c.O c.P c.M) (hrow : ∀ r ∈ c.M, (r.length : Int) ≤ 9223372036854775807) (hil : inn.length = c.O.length) (hin : ∀ j : Int, 0 ≤ j → j < (c.O.length : Int) → gt inn j = decide (j ∈ c.R 1)) :
    ∃ r, bailiffref16_Judge.l1 c.O c.P c.M c.R0 c.R1 c.M0 c.M1 inn 0 = some r ∧ ((r = .inl () ∧ ∀ i, 0 ≤ i → i < (c.O.length : Int) → ¬ c.BadS 1 i) ∨ ∃ i, Fst c.O.length (c.BadS 1) i ∧ r = .inr ((c.stp 1 i).2, 1, i)) := by
  have hlo := h.lo
  have hmany := h.many
  refine iter_meas (body := fun t_ : Int => bailiffref16_Judge.l1b c.O c.P c.M c.R0 c.R1 c.M0 c.M1 inn t_)
    (fun k => 0 ≤ k ∧ k ≤ (c.O.length : Int) ∧ ∀ i : Int, 0 ≤ i → i < k → ¬ c.BadS 1 i)
    (fun r => (r = .inl () ∧ ∀ i, 0 ≤ i → i < (c.O.length : Int) → ¬ c.BadS 1 i) ∨ ∃ i, Fst c.O.length (c.BadS 1) i ∧ r = .inr ((c.stp 1 i).2, 1, i)) (fun k => (c.O.length - k).toNat)
    (fun k ⟨h0, h1, h2⟩ => ?_) 0 ⟨Int.le_refl _, by omega, fun i a b => by omega⟩
  unfold bailiffref16_Judge.l1b
  by_cases hk : k < (c.O.length : Int)
  · rw [if_pos hk, if_pos (by simp; omega), hin k h0 hk]
    have go : ¬ c.BadS 1 k → ∀ i : Int, 0 ≤ i → i < k + 1 → ¬ c.BadS 1 i := fun hb i a b => by
      by_cases hi : i = k
      · subst hi; exact hb
      · exact h2 i a (by omega)
    by_cases hm : k ∈ c.R 1
    · rw [if_pos (decide_eq_true hm), step16_run h hrow (by decide) hil hin h0 hk]
      simp only [Option.bind_some]
      by_cases hs : (c.stp 1 k).2 = 0
      · right
        rw [if_pos hs, jn_inl, wrap64 (x := k + 1) (by omega) (by omega)]
        exact ⟨_, rfl, ⟨by omega, by omega, go fun hb => hb.2 hs⟩, by omega⟩
      · left
        rw [if_neg hs]
        exact ⟨_, rfl, .inr ⟨k, ⟨⟨h0, hk⟩, ⟨hm, hs⟩, h2⟩, rfl⟩⟩
    · right
      rw [if_neg (by simp [hm]), jn_inl, wrap64 (x := k + 1) (by omega) (by omega)]
      exact ⟨_, rfl, ⟨by omega, by omega, go fun hb => hm hb.1⟩, by omega⟩
  · left
    rw [if_neg hk]
    exact ⟨_, rfl, .inl ⟨rfl, fun i a b => h2 i a (by omega)⟩⟩
theorem graph16_1 {inn : List Bool} (h : GR c.O c.P c.M) (hil : inn.length = c.O.length) (hin : ∀ j : Int, 0 ≤ j → j < (c.O.length : Int) → gt inn j = decide (j ∈ c.R 1)) (hno : ∀ i, 0 ≤ i → i < (c.O.length : Int) → ¬ c.BadS 1 i) :
    bailiffref16_Judge.l3 c.O c.M c.R0 c.R1 c.M0 c.M1 inn (List.replicate (c.O.length : Int).toNat []) 0 = some (.inl (c.gph 1)) := by
  have hlo := h.lo
  have hmany := h.many
  obtain ⟨r, e, rfl⟩ := iter_meas (body := fun t_ : (List (List Int)) × Int => bailiffref16_Judge.l3b c.O c.M c.R0 c.R1 c.M0 c.M1 inn t_.1 t_.2)
    (fun s => 0 ≤ s.2 ∧ s.2 ≤ (c.O.length : Int) ∧ s.1.length = c.O.length ∧ ∀ i : Int, 0 ≤ i → i < (c.O.length : Int) → gt s.1 i = if i < s.2 ∧ i ∈ c.R 1 then (c.stp 1 i).1 else [])
    (fun r => r = .inl (c.gph 1)) (fun s => (c.O.length - s.2).toNat)
    (fun ⟨g, k⟩ ⟨h0, h1, h2, h3⟩ => by
      dsimp only at h0 h1 h2 h3 ⊢
      unfold bailiffref16_Judge.l3b
      by_cases hk : k < (c.O.length : Int)
      · right
        rw [if_pos hk, if_pos (by simp; omega), hin k h0 hk]
        have fin : ∀ {x : List Int}, (k ∈ c.R 1 → x = (c.stp 1 k).1) → k ∈ c.R 1 → (∀ i : Int, 0 ≤ i → i < (c.O.length : Int) → gt (st g k x) i = if i < k + 1 ∧ i ∈ c.R 1 then (c.stp 1 i).1 else []) := fun hx hm i a b => by
          rw [gt_st h0 (by omega) a]
          by_cases hi : i = k
          · subst hi; rw [if_pos rfl, if_pos ⟨by omega, hm⟩, hx hm]
          · rw [if_neg hi, h3 i a b]
            by_cases hh : i < k ∧ i ∈ c.R 1
            · rw [if_pos hh, if_pos ⟨by omega, hh.2⟩]
            · rw [if_neg hh, if_neg (fun h' => hh ⟨by omega, h'.2⟩)]
        by_cases hm : k ∈ c.R 1
        · have hs : (c.stp 1 k).2 = 0 := Classical.byContradiction fun hs => hno k h0 hk ⟨hm, hs⟩
          rw [if_pos (decide_eq_true hm), if_pos ⟨h0, hk⟩, jn_inl]
          by_cases ho : gt c.O k = 1
          · rw [if_pos (decide_eq_true ho), move16_run (by decide) h0]
            simp only [Option.bind_some]
            rw [if_pos (by simp; omega), if_pos (decide_eq_true hm), if_pos ⟨h0, hk⟩, jn_inl, if_neg (by simp [ho]), jn_inl, wrap64 (x := k + 1) (by omega) (by omega)]
            refine ⟨_, rfl, ⟨by dsimp only; omega, by dsimp only; omega, by dsimp only; rw [st_len]; exact h2, fin (fun _ => ?_) hm⟩, by dsimp only; omega⟩
            unfold Cl.stp at hs ⊢
            rw [if_pos ho] at hs ⊢
            by_cases ha : c.mv 1 k ∈ gt c.M k
            · rw [if_pos ha] at hs ⊢
              by_cases hb : c.mv 1 k ∈ c.R 1
              · rw [if_pos hb]
              · rw [if_neg hb] at hs; simp at hs
            · rw [if_neg ha] at hs; simp at hs
          · rw [if_neg (by simp [ho]), if_pos (decide_eq_true hm), if_pos ⟨h0, hk⟩, jn_inl, if_pos (by simp [ho]), if_pos ⟨h0, by omega⟩, if_pos (by simp; omega), jn_inl, wrap64 (x := k + 1) (by omega) (by omega)]
            refine ⟨_, rfl, ⟨by dsimp only; omega, by dsimp only; omega, by dsimp only; rw [st_len]; exact h2, fin (fun _ => ?_) hm⟩, by dsimp only; omega⟩
            unfold Cl.stp at hs ⊢
            rw [if_neg ho] at hs ⊢
            by_cases ha : ∀ m ∈ gt c.M k, m ∈ c.R 1
            · rw [if_pos ha]
            · rw [if_neg ha] at hs; simp at hs
        · rw [if_neg (by simp [hm]), jn_inl, if_neg (by simp), if_neg (by simp [hm]), jn_inl, if_neg (by simp), jn_inl, wrap64 (x := k + 1) (by omega) (by omega)]
          refine ⟨_, rfl, ⟨by dsimp only; omega, by dsimp only; omega, h2, fun i a b => ?_⟩, by dsimp only; omega⟩
          dsimp only
          rw [h3 i a b]
          by_cases hh : i < k ∧ i ∈ c.R 1
          · rw [if_pos hh, if_pos ⟨by omega, hh.2⟩]
          · rw [if_neg hh, if_neg (fun h' => hh ⟨by
              have : i ≠ k := fun e => hm (e ▸ h'.2)
              omega, h'.2⟩)]
      · left
        rw [if_neg hk]
        refine ⟨_, rfl, ?_⟩
        rw [gph_of (p := 1) h2 (fun i b0 b1 => by
          rw [h3 i b0 b1]
          by_cases hh : i ∈ c.R 1
          · rw [if_pos ⟨by omega, hh⟩, if_pos hh]
          · rw [if_neg (fun h' => hh h'.2), if_neg hh])]) (List.replicate (c.O.length : Int).toNat [], 0) ⟨Int.le_refl _, by dsimp only; omega, by simp, fun i a b => by
      have := gt_mem (xs := List.replicate (c.O.length : Int).toNat ([] : List Int)) a (by simp; omega)
      rw [(List.mem_replicate.1 this).2, if_neg (by dsimp only; omega)]⟩
  exact e
theorem judge16_run (hrow : ∀ r ∈ c.M, (r.length : Int) ≤ 9223372036854775807) (l0 : (c.R0.length : Int) ≤ 4611686018427387903) (l1 : (c.R1.length : Int) ≤ 4611686018427387903) :
    ∃ v, bailiffref16_Judge.f c.O c.P c.M c.R0 c.R1 c.M0 c.M1 = some v ∧ c.Says v := by
  obtain ⟨b, e0, e1⟩ := is_run (O := c.O) (P := c.P) (M := c.M) hrow
  unfold bailiffref16_Judge.f
  rw [e0]
  simp only [Option.bind_some]
  by_cases hg : GR c.O c.P c.M
  · rw [if_pos (e1.2 hg)]
    have hmany := hg.many
    have hlo := hg.lo
    have hN : (c.O.length : Int) ≤ 1099511627776 := by omega
    obtain ⟨v, p0, ⟨i, hi, rfl⟩ | ⟨hno, ⟨hoff, rfl⟩ | ⟨hoff, rfl⟩⟩⟩ := part16_run (n := c.O.length) (R0 := c.R0) (R1 := c.R1) (M0 := c.M0) (M1 := c.M1) hN l0 l1
    · rw [p0]
      exact ⟨_, rfl, .part i hg hi⟩
    · rw [p0]
      exact ⟨_, rfl, .off hg hno hoff⟩
    · rw [p0]
      simp only [Option.bind_some]
      obtain ⟨o0, o1⟩ := offs_zero.1 hoff
      obtain ⟨i0, j0, j1, j2⟩ := inside_run (n := c.O.length) (l := c.R0) (by omega) (by omega) o0
      obtain ⟨i1, k0, k1, k2⟩ := inside_run (n := c.O.length) (l := c.R1) (by omega) (by omega) o1
      rw [if_neg (by simp), j0]
      simp only [Option.bind_some]
      obtain ⟨r0, s0, ⟨rfl, h0⟩ | ⟨i, hi, rfl⟩⟩ := sweep16_0 (c := c) (inn := i0) hg hrow j1 j2
      · rw [s0, jn_inl, k0]
        simp only [Option.bind_some]
        obtain ⟨r1, s1, ⟨rfl, h1⟩ | ⟨i, hi, rfl⟩⟩ := sweep16_1 (c := c) (inn := i1) hg hrow k1 k2
        · rw [s1, jn_inl, if_pos ⟨by omega, by omega⟩, graph16_0 hg j1 j2 h0, jn_inl]
          obtain ⟨a, ba, ma⟩ := bad15_run (G := c.gph 0) (pr := c.P) (q := 1) (by rw [gph_len]; exact hN) (gph_row hg hrow 0)
          obtain ⟨b, bb, mb⟩ := bad15_run (G := c.gph 1) (pr := c.P) (q := 0) (by rw [gph_len]; exact hN) (gph_row hg hrow 1)
          rw [ba]
          simp only [Option.bind_some]
          by_cases ha : 0 ≤ a
          · rw [if_pos ha]
            exact ⟨_, rfl, .cyc0 a hg hno hoff h0 h1 ma ha⟩
          · rw [if_neg ha, graph16_1 hg k1 k2 h1, jn_inl, bb]
            simp only [Option.bind_some]
            by_cases hb : 0 ≤ b
            · rw [if_pos hb]
              exact ⟨_, rfl, .cyc1 a b hg hno hoff h0 h1 ma (by omega) mb hb⟩
            · rw [if_neg hb]
              exact ⟨_, rfl, .ok a b hg hno hoff h0 h1 ma (by omega) mb (by omega)⟩
        · rw [s1]
          exact ⟨_, rfl, .step1 i hg hno hoff h0 hi⟩
      · rw [s0]
        exact ⟨_, rfl, .step0 i hg hno hoff hi⟩
  · rw [if_neg (fun h => hg (e1.1 h))]
    exact ⟨_, rfl, .arg hg⟩
end
end Go.Bw
