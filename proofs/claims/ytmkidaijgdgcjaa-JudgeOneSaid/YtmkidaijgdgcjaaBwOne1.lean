/- The document's solver: attractors by rounds, the recursion; its regions are won: as the models tell it. Conditions: none. -/
import Derived.Test.YtmkidaijgdgcjaaBwGame
import Derived.Test.YtmkidaijgdgcjaaBwJudge1
import Derived.Test.YtmkidaijgdgcjaaBwOne
set_option linter.unusedVariables false
set_option linter.unusedSimpArgs false
set_option linter.unusedSectionVars false
namespace Go.Bw
open Go Go.RowKit Tj Pg

/-- A truth stands at a place. -/
def On (b : List Bool) (x : Int) : Prop := 0 ≤ x ∧ x < (b.length : Int) ∧ gt b x = true
instance {b : List Bool} {x : Int} : Decidable (On b x) := inferInstanceAs (Decidable (_ ∧ _ ∧ _))
theorem On.st_ {b : List Bool} {i : Int} {v : Bool} (h0 : 0 ≤ i) (h1 : i < (b.length : Int)) {x : Int} : On (st b i v) x ↔ (x = i ∧ v = true) ∨ (x ≠ i ∧ On b x) := by
  unfold On
  rw [st_len]
  constructor
  · rintro ⟨a0, a1, a2⟩
    rw [gt_st h0 h1 a0] at a2
    by_cases hx : x = i
    · rw [if_pos hx] at a2; exact .inl ⟨hx, a2⟩
    · rw [if_neg hx] at a2; exact .inr ⟨hx, a0, a1, a2⟩
  · rintro (⟨rfl, hv⟩ | ⟨hx, a0, a1, a2⟩)
    · exact ⟨h0, h1, by rw [gt_st h0 h1 h0, if_pos rfl]; exact hv⟩
    · exact ⟨a0, a1, by rw [gt_st h0 h1 a0, if_neg hx]; exact a2⟩
theorem On.rep {n : Nat} {x : Int} : ¬ On (List.replicate n false) x := fun ⟨a0, a1, a2⟩ => by
  have := gt_mem a0 a1
  rw [(List.mem_replicate.1 this).2] at a2
  cases a2
theorem gt_rep_false {n : Nat} {x : Int} (h0 : 0 ≤ x) (h1 : x < (n : Int)) : gt (List.replicate n false) x = false := by
  have := gt_mem (xs := List.replicate n false) h0 (by simp; exact h1)
  exact (List.mem_replicate.1 this).2
theorem cnt_lt : ∀ {a b : List Bool}, a.length = b.length → (∀ i : Nat, a[i]? = some true → b[i]? = some true) → (∃ i : Nat, b[i]? = some true ∧ a[i]? ≠ some true) → a.count true < b.count true
  | [], [], _, _, ⟨i, h, _⟩ => by simp at h
  | x :: a, y :: b, hl, h, ⟨i, h1, h2⟩ => by
    have hl' : a.length = b.length := by simpa using hl
    have hs : ∀ i : Nat, a[i]? = some true → b[i]? = some true := fun i hi => by have := h (i + 1) (by simpa using hi); simpa using this
    have h0 := h 0
    simp only [List.getElem?_cons_zero, Option.some.injEq] at h0
    have hle : a.count true ≤ b.count true := by
      by_cases he : ∃ i : Nat, b[i]? = some true ∧ a[i]? ≠ some true
      · exact Nat.le_of_lt (cnt_lt hl' hs he)
      · have : a = b := by
          apply List.ext_getElem? 
          intro i
          by_cases hi : i < a.length
          · have hi' : i < b.length := by omega
            rw [List.getElem?_eq_getElem hi, List.getElem?_eq_getElem hi']
            congr 1
            cases ha : a[i] with
            | true => have := hs i (by rw [List.getElem?_eq_getElem hi, ha]); rw [List.getElem?_eq_getElem hi'] at this; exact (Option.some.inj this).symm
            | false => cases hb : b[i] with
              | false => rfl
              | true => exact absurd ⟨i, by rw [List.getElem?_eq_getElem hi', hb], by rw [List.getElem?_eq_getElem hi, ha]; simp⟩ he
          · rw [List.getElem?_eq_none (by omega), List.getElem?_eq_none (by omega)]
        rw [this]
        exact Nat.le_refl _
    cases i with
    | zero =>
      simp only [List.getElem?_cons_zero, Option.some.injEq, ne_eq] at h1 h2
      subst h1
      have : x = false := by simpa using h2
      subst this
      simp
      omega
    | succ i =>
      have := cnt_lt hl' hs ⟨i, by simpa using h1, by simpa using h2⟩
      simp only [List.count_cons]
      cases x with
      | false => simp; omega
      | true => rw [h0 rfl]; simp; omega
theorem On.get {b : List Bool} {i : Nat} : b[i]? = some true ↔ On b (i : Int) := by
  unfold On
  constructor
  · intro h
    have hi := (List.getElem?_eq_some_iff.1 h).1
    exact ⟨by omega, by omega, gt_of_get h⟩
  · rintro ⟨_, h1, h2⟩
    have := gt_some (xs := b) (i := (i : Int)) (by omega) h1
    rw [h2] at this
    simpa using this
theorem on_lt {a b : List Bool} (hl : a.length = b.length) (hs : ∀ x, On a x → On b x) {x : Int} (h1 : On b x) (h2 : ¬ On a x) : a.count true < b.count true :=
  cnt_lt hl (fun i hi => On.get.2 (hs _ (On.get.1 hi))) ⟨x.toNat, On.get.2 (by have := h1.1; rwa [show ((x.toNat : Nat) : Int) = x from by omega]), fun h => h2 (by have := On.get.1 h; have h0 := h1.1; rwa [show ((x.toNat : Nat) : Int) = x from by omega] at this)⟩
theorem some_run13 {b : List Bool} (hb : (b.length : Int) ≤ 9223372036854775807) : ∃ r, bailiffref13_some.f b = some r ∧ (r = true ↔ ∃ x, On b x) := by
  obtain ⟨r, hr, hq⟩ := iter_meas (body := fun t_ : Int => bailiffref13_some.l0b b t_)
    (fun i => 0 ≤ i ∧ i ≤ (b.length : Int) ∧ ∀ x, x < i → ¬ On b x)
    (fun r => (r = .inl () ∧ ∀ x, ¬ On b x) ∨ (r = .inr true ∧ ∃ x, On b x)) (fun i => (b.length - i).toNat)
    (fun i ⟨a0, a1, a2⟩ => by
      unfold bailiffref13_some.l0b
      by_cases hi : i < (b.length : Int)
      · rw [if_pos hi, if_pos ⟨a0, hi⟩]
        by_cases h : gt b i = true
        · left
          rw [if_pos h]
          exact ⟨_, rfl, .inr ⟨rfl, i, a0, hi, h⟩⟩
        · right
          rw [if_neg h, wrap64 (x := i + 1) (by omega) (by omega)]
          refine ⟨_, rfl, ⟨by omega, by omega, fun x hx ho => ?_⟩, by omega⟩
          by_cases e : x = i
          · subst e; exact h ho.2.2
          · exact a2 x (by omega) ho
      · left
        rw [if_neg hi]
        exact ⟨_, rfl, .inl ⟨rfl, fun x ho => a2 x (by have := ho.2.1; omega) ho⟩⟩) 0 ⟨Int.le_refl _, by omega, fun x hx ho => by have := ho.1; omega⟩
  have hl : bailiffref13_some.l0 b 0 = some r := hr
  unfold bailiffref13_some.f
  rw [hl]
  rcases hq with ⟨rfl, h⟩ | ⟨rfl, h⟩
  · exact ⟨false, rfl, by simp; exact h⟩
  · exact ⟨true, rfl, by simp; exact h⟩
theorem less_run13 {a b : List Bool} (hab : b.length = a.length) (ha : (a.length : Int) ≤ 1099511627776) : ∃ c, bailiffref13_less.f a b = some c ∧ c.length = a.length ∧ ∀ x, On c x ↔ On a x ∧ ¬ On b x := by
  obtain ⟨r, hr, c, rfl, h1, h2⟩ := iter_meas (body := fun t_ : (List Bool) × Int => bailiffref13_less.l0b a b t_.1 t_.2)
    (fun s => 0 ≤ s.2 ∧ s.2 ≤ (a.length : Int) ∧ s.1.length = a.length ∧ ∀ x, On s.1 x ↔ x < s.2 ∧ On a x ∧ ¬ On b x)
    (fun r => ∃ c, r = .inl c ∧ c.length = a.length ∧ ∀ x, On c x ↔ On a x ∧ ¬ On b x) (fun s => (a.length - s.2).toNat)
    (fun ⟨c, i⟩ ⟨a0, a1, a2, a3⟩ => by
      dsimp only at a0 a1 a2 a3 ⊢
      unfold bailiffref13_less.l0b
      by_cases hi : i < (a.length : Int)
      · right
        have htest : ∀ {ρ : Type} (f : Bool → Option ρ), jn (if gt a i = true then (if (0 : Int) ≤ i ∧ i < (b.length : Int) then some (.inl (!(gt b i))) else none) else some (.inl false)) f = f (gt a i && !(gt b i)) := fun f => by
          by_cases h : gt a i = true
          · rw [if_pos h, if_pos ⟨a0, by omega⟩, jn_inl, h, Bool.true_and]
          · have h' : gt a i = false := by simpa using h
            rw [if_neg h, jn_inl, h', Bool.false_and]
        rw [if_pos hi, if_pos ⟨a0, hi⟩, htest, if_pos (by simp; omega), wrap64 (x := i + 1) (by omega) (by omega)]
        refine ⟨_, rfl, ⟨by dsimp only; omega, by dsimp only; omega, by dsimp only; rw [st_len]; exact a2, fun x => ?_⟩, by dsimp only; omega⟩
        dsimp only
        rw [On.st_ a0 (by omega), a3 x]
        constructor
        · rintro (⟨rfl, h⟩ | ⟨h1, h2, h3⟩)
          · simp only [Bool.and_eq_true, Bool.not_eq_true'] at h
            exact ⟨by omega, ⟨a0, hi, h.1⟩, fun hb => by have := hb.2.2; rw [h.2] at this; cases this⟩
          · exact ⟨by omega, h3⟩
        · rintro ⟨h1, h2, h3⟩
          by_cases e : x = i
          · subst e
            refine .inl ⟨rfl, ?_⟩
            rw [h2.2.2, Bool.true_and, Bool.not_eq_true']
            cases hb : gt b x with
            | false => rfl
            | true => exact absurd ⟨a0, by omega, hb⟩ h3
          · exact .inr ⟨e, by omega, h2, h3⟩
      · left
        rw [if_neg hi]
        refine ⟨_, rfl, c, rfl, a2, fun x => ?_⟩
        rw [a3 x]
        exact ⟨fun h => h.2, fun h => ⟨by have := h.1.2.1; omega, h⟩⟩) (List.replicate (a.length : Int).toNat false, 0) ⟨Int.le_refl _, by dsimp only; omega, by simp, fun x => ⟨fun h => absurd h On.rep, fun h => by have := h.2.1.1; have := h.1; dsimp only at this; omega⟩⟩
  refine ⟨c, ?_, h1, h2⟩
  unfold bailiffref13_less.f
  have hl : bailiffref13_less.l0 a b (List.replicate (a.length : Int).toNat (false : Bool)) 0 = some (.inl c) := hr
  rw [if_pos ⟨by omega, by omega⟩, hl, jn_inl]
section
variable {O P : List Int} {M : List (List Int)}
/-- Does a position come into a set by its own, or the other's moves? -/
def StepP (O : List Int) (M : List (List Int)) (inn : List Bool) (p : Int) (a : List Bool) (x : Int) : Prop :=
  if gt O x = p then ∃ y ∈ gt M x, On inn y ∧ On a y else (∃ y ∈ gt M x, On inn y) ∧ ∀ y ∈ gt M x, On inn y → On a y
theorem step12_run {inn a : List Bool} {p x : Int} (g : GR O P M) (hrow : ∀ r ∈ M, (r.length : Int) ≤ 9223372036854775807) (hi : inn.length = O.length) (ha : a.length = O.length) (h0 : 0 ≤ x) (h1 : x < (O.length : Int)) :
    ∃ b, bailiffref12_Step.f O P M inn p a x = some b ∧ (b = true ↔ StepP O M inn p a x) := by
  have hlo := g.lo
  have hx : Tj.Ok M x := ⟨h0, by omega⟩
  have hlen := hrow _ (gt_mem h0 hx.2)
  obtain ⟨r, hr, c, d, rfl, q1, q2, q3, q4⟩ := iter_meas (body := fun t_ : Int × Int × Int => bailiffref12_Step.l0b M inn a x t_.1 t_.2.1 t_.2.2)
    (fun s => 0 ≤ s.2.2 ∧ s.2.2 ≤ ((gt M x).length : Int) ∧ (0 ≤ s.2.1 ∧ s.2.1 ≤ s.1 ∧ s.1 ≤ s.2.2) ∧ (0 < s.1 ↔ ∃ y ∈ (gt M x).take s.2.2.toNat, On inn y) ∧ (0 < s.2.1 ↔ ∃ y ∈ (gt M x).take s.2.2.toNat, On inn y ∧ On a y) ∧ (s.2.1 = s.1 ↔ ∀ y ∈ (gt M x).take s.2.2.toNat, On inn y → On a y))
    (fun r => ∃ c d, r = .inl (c, d) ∧ (0 ≤ d ∧ d ≤ c) ∧ (0 < c ↔ ∃ y ∈ gt M x, On inn y) ∧ (0 < d ↔ ∃ y ∈ gt M x, On inn y ∧ On a y) ∧ (d = c ↔ ∀ y ∈ gt M x, On inn y → On a y)) (fun s => ((gt M x).length - s.2.2).toNat)
    (fun ⟨c, d, k⟩ ⟨a0, a1, a2, a3, a4, a5⟩ => by
      dsimp only at a0 a1 a2 a3 a4 a5 ⊢
      unfold bailiffref12_Step.l0b
      rw [if_pos (show (0 : Int) ≤ x ∧ x < (M.length : Int) from hx)]
      by_cases hk : k < ((gt M x).length : Int)
      · right
        have htake : ∀ v, v ∈ (gt M x).take (k + 1).toNat ↔ v ∈ (gt M x).take k.toNat ∨ v = gt (gt M x) k := fun v => by
          rw [show (k + 1).toNat = k.toNat + 1 from by omega, List.take_add_one, gt_some a0 hk]
          simp
        have hr := (g.rise x hx k a0 hk).1
        generalize hm : gt (gt M x) k = m at *
        rw [if_pos hk, if_pos ⟨a0, hk⟩, if_pos ⟨hr.1, by omega⟩, wrap64 (x := k + 1) (by omega) (by omega), wrap64 (x := c + 1) (by omega) (by omega), wrap64 (x := d + 1) (by omega) (by omega)]
        by_cases hin : gt inn m = true
        · have oin : On inn m := ⟨hr.1, by omega, hin⟩
          rw [if_pos hin, if_pos ⟨hr.1, by omega⟩]
          by_cases hia : gt a m = true
          · have oa : On a m := ⟨hr.1, by omega, hia⟩
            rw [if_pos hia, jn_inl]
            refine ⟨_, rfl, ⟨by dsimp only; omega, by dsimp only; omega, by dsimp only; omega, ?_, ?_, ?_⟩, by dsimp only; omega⟩
            · exact ⟨fun _ => ⟨m, (htake m).2 (.inr rfl), oin⟩, fun _ => by dsimp only; omega⟩
            · exact ⟨fun _ => ⟨m, (htake m).2 (.inr rfl), oin, oa⟩, fun _ => by dsimp only; omega⟩
            · dsimp only
              rw [show (d + 1 = c + 1 ↔ d = c) from by omega, a5]
              constructor
              · intro h y hy hyi
                rcases (htake y).1 hy with hy | rfl
                · exact h y hy hyi
                · exact oa
              · intro h y hy hyi
                exact h y ((htake y).2 (.inl hy)) hyi
          · have oa : ¬ On a m := fun h => hia h.2.2
            rw [if_neg hia, jn_inl]
            refine ⟨_, rfl, ⟨by dsimp only; omega, by dsimp only; omega, by dsimp only; omega, ?_, ?_, ?_⟩, by dsimp only; omega⟩
            · exact ⟨fun _ => ⟨m, (htake m).2 (.inr rfl), oin⟩, fun _ => by dsimp only; omega⟩
            · dsimp only
              rw [a4]
              constructor
              · rintro ⟨y, hy, h⟩; exact ⟨y, (htake y).2 (.inl hy), h⟩
              · rintro ⟨y, hy, h⟩
                rcases (htake y).1 hy with hy | rfl
                · exact ⟨y, hy, h⟩
                · exact absurd h.2 oa
            · dsimp only
              exact ⟨fun h => by omega, fun h => absurd (h m ((htake m).2 (.inr rfl)) oin) oa⟩
        · have oin : ¬ On inn m := fun h => hin h.2.2
          rw [if_neg hin, jn_inl]
          refine ⟨_, rfl, ⟨by dsimp only; omega, by dsimp only; omega, by dsimp only; omega, ?_, ?_, ?_⟩, by dsimp only; omega⟩
          · dsimp only
            rw [a3]
            constructor
            · rintro ⟨y, hy, h⟩; exact ⟨y, (htake y).2 (.inl hy), h⟩
            · rintro ⟨y, hy, h⟩
              rcases (htake y).1 hy with hy | rfl
              · exact ⟨y, hy, h⟩
              · exact absurd h oin
          · dsimp only
            rw [a4]
            constructor
            · rintro ⟨y, hy, h⟩; exact ⟨y, (htake y).2 (.inl hy), h⟩
            · rintro ⟨y, hy, h⟩
              rcases (htake y).1 hy with hy | rfl
              · exact ⟨y, hy, h⟩
              · exact absurd h.1 oin
          · dsimp only
            rw [a5]
            constructor
            · intro h y hy hyi
              rcases (htake y).1 hy with hy | rfl
              · exact h y hy hyi
              · exact absurd hyi oin
            · intro h y hy hyi
              exact h y ((htake y).2 (.inl hy)) hyi
      · left
        rw [if_neg hk]
        rw [List.take_of_length_le (by omega)] at a3 a4 a5
        exact ⟨_, rfl, c, d, rfl, ⟨a2.1, a2.2.1⟩, a3, a4, a5⟩) (0, 0, 0) ⟨Int.le_refl _, by dsimp only; omega, by dsimp only; omega, by simp, by simp, by simp⟩
  have hl : bailiffref12_Step.l0 M inn a x 0 0 0 = some (.inl (c, d)) := hr
  unfold bailiffref12_Step.f StepP
  rw [hl, jn_inl, if_pos ⟨h0, h1⟩]
  dsimp only
  by_cases ho : gt O x = p
  · rw [if_pos ho, if_pos ho]
    exact ⟨_, rfl, by rw [decide_eq_true_iff]; exact q3⟩
  · rw [if_neg ho, if_neg ho]
    by_cases hc : 0 < c
    · rw [if_pos hc, jn_inl]
      exact ⟨_, rfl, by rw [decide_eq_true_iff, q4]; exact ⟨fun h => ⟨q2.1 hc, h⟩, fun h => h.2⟩⟩
    · rw [if_neg hc, jn_inl]
      exact ⟨_, rfl, by simp; intro y hy hyi; exact absurd (q2.2 ⟨y, hy, hyi⟩) hc⟩
theorem att0_run {inn to : List Bool} (hN : (O.length : Int) ≤ 1048576) (hi : inn.length = O.length) (ht : to.length = O.length) :
    ∃ a, bailiffref12_Attract.l0 O inn to (List.replicate (O.length : Int).toNat (false : Bool)) 0 = some (.inl a) ∧ a.length = O.length ∧ ∀ x, On a x ↔ On inn x ∧ On to x := by
  obtain ⟨r, hr, c, rfl, h1, h2⟩ := iter_meas (body := fun t_ : (List Bool) × Int => bailiffref12_Attract.l0b O inn to t_.1 t_.2)
    (fun s => 0 ≤ s.2 ∧ s.2 ≤ (O.length : Int) ∧ s.1.length = O.length ∧ ∀ x, On s.1 x ↔ x < s.2 ∧ On inn x ∧ On to x)
    (fun r => ∃ c, r = .inl c ∧ c.length = O.length ∧ ∀ x, On c x ↔ On inn x ∧ On to x) (fun s => (O.length - s.2).toNat)
    (fun ⟨c, i⟩ ⟨a0, a1, a2, a3⟩ => by
      dsimp only at a0 a1 a2 a3 ⊢
      unfold bailiffref12_Attract.l0b
      by_cases hlt : i < (O.length : Int)
      · right
        have htest : ∀ {ρ : Type} (f : Bool → Option ρ), jn (if gt inn i = true then (if (0 : Int) ≤ i ∧ i < (to.length : Int) then some (.inl (gt to i)) else none) else some (.inl false)) f = f (gt inn i && gt to i) := fun f => by
          by_cases h : gt inn i = true
          · rw [if_pos h, if_pos ⟨a0, by omega⟩, jn_inl, h, Bool.true_and]
          · have h' : gt inn i = false := by simpa using h
            rw [if_neg h, jn_inl, h', Bool.false_and]
        rw [if_pos hlt, if_pos ⟨a0, by omega⟩, htest, if_pos (by simp; omega), wrap64 (x := i + 1) (by omega) (by omega)]
        refine ⟨_, rfl, ⟨by dsimp only; omega, by dsimp only; omega, by dsimp only; rw [st_len]; exact a2, fun x => ?_⟩, by dsimp only; omega⟩
        dsimp only
        rw [On.st_ a0 (by omega), a3 x]
        constructor
        · rintro (⟨rfl, h⟩ | ⟨h1, h2, h3⟩)
          · simp only [Bool.and_eq_true] at h
            exact ⟨by omega, ⟨a0, by omega, h.1⟩, ⟨a0, by omega, h.2⟩⟩
          · exact ⟨by omega, h3⟩
        · rintro ⟨h1, h2, h3⟩
          by_cases e : x = i
          · subst e
            exact .inl ⟨rfl, by rw [h2.2.2, h3.2.2]; rfl⟩
          · exact .inr ⟨e, by omega, h2, h3⟩
      · left
        rw [if_neg hlt]
        refine ⟨_, rfl, c, rfl, a2, fun x => ?_⟩
        rw [a3 x]
        exact ⟨fun h => h.2, fun h => ⟨by have := h.1.2.1; omega, h⟩⟩) (List.replicate (O.length : Int).toNat false, 0) ⟨Int.le_refl _, by dsimp only; omega, by simp, fun x => ⟨fun h => absurd h On.rep, fun h => by have := h.2.1.1; have := h.1; dsimp only at this; omega⟩⟩
  exact ⟨c, hr, h1, h2⟩
/-- One round: all that come in by a step. -/
theorem att2_run {inn a : List Bool} {p : Int} (g : GR O P M) (hrow : ∀ r ∈ M, (r.length : Int) ≤ 9223372036854775807) (hi : inn.length = O.length) (ha : a.length = O.length) :
    ∃ b m, bailiffref12_Attract.l2 O P M inn p a (([] : List Bool) ++ a) false 0 = some (.inl (b, m)) ∧ b.length = O.length ∧ (∀ x, On b x ↔ On a x ∨ (On inn x ∧ StepP O M inn p a x)) ∧ (m = true ↔ ∃ x, ¬ On a x ∧ On inn x ∧ StepP O M inn p a x) := by
  have hlo := g.lo
  have hmany := g.many
  obtain ⟨r, hr, b, m, rfl, h1, h2, h3⟩ := iter_meas (body := fun t_ : (List Bool) × Bool × Int => bailiffref12_Attract.l2b O P M inn p a t_.1 t_.2.1 t_.2.2)
    (fun s => 0 ≤ s.2.2 ∧ s.2.2 ≤ (O.length : Int) ∧ s.1.length = O.length ∧ (∀ x, On s.1 x ↔ On a x ∨ (x < s.2.2 ∧ On inn x ∧ StepP O M inn p a x)) ∧ (s.2.1 = true ↔ ∃ x, x < s.2.2 ∧ ¬ On a x ∧ On inn x ∧ StepP O M inn p a x))
    (fun r => ∃ b m, r = .inl (b, m) ∧ b.length = O.length ∧ (∀ x, On b x ↔ On a x ∨ (On inn x ∧ StepP O M inn p a x)) ∧ (m = true ↔ ∃ x, ¬ On a x ∧ On inn x ∧ StepP O M inn p a x)) (fun s => (O.length - s.2.2).toNat)
    (fun ⟨b, m, i⟩ ⟨a0, a1, a2, a3, a4⟩ => by
      dsimp only at a0 a1 a2 a3 a4 ⊢
      unfold bailiffref12_Attract.l2b
      by_cases hlt : i < (O.length : Int)
      · right
        have htest : ∀ {ρ : Type} (f : Bool → Option ρ), jn (if gt inn i = true then (if (0 : Int) ≤ i ∧ i < (a.length : Int) then some (.inl (!(gt a i))) else none) else some (.inl false)) f = f (gt inn i && !(gt a i)) := fun f => by
          by_cases h : gt inn i = true
          · rw [if_pos h, if_pos ⟨a0, by omega⟩, jn_inl, h, Bool.true_and]
          · have h' : gt inn i = false := by simpa using h
            rw [if_neg h, jn_inl, h', Bool.false_and]
        have hlb : ((([] : List Bool) ++ a).length : Int) = O.length := by simp; omega
        rw [if_pos hlt, if_pos ⟨a0, by omega⟩, htest, wrap64 (x := i + 1) (by omega) (by omega)]
        by_cases hc : On inn i ∧ ¬ On a i
        · have e1 : (gt inn i && !(gt a i)) = true := by
            rw [hc.1.2.2, Bool.true_and, Bool.not_eq_true']
            cases hga : gt a i with
            | false => rfl
            | true => exact absurd ⟨a0, by omega, hga⟩ hc.2
          obtain ⟨v, b0, b1⟩ := step12_run (p := p) g hrow hi ha a0 hlt
          have hv : ∀ {ρ : Type} (f : Bool → Option ρ), jn (if m = true then some (.inl true) else some (.inl (gt (st b i v) i))) f = f (m || v) := fun f => by
            cases m with
            | true => rw [if_pos rfl, jn_inl, Bool.true_or]
            | false => rw [if_neg (by simp), jn_inl, gt_st a0 (by omega) a0, if_pos rfl, Bool.false_or]
          rw [if_pos e1, b0]
          simp only [Option.bind_some]
          rw [if_pos ⟨a0, by omega⟩, hv, jn_inl]
          refine ⟨_, rfl, ⟨by dsimp only; omega, by dsimp only; omega, by dsimp only; rw [st_len]; exact a2, fun x => ?_, ?_⟩, by dsimp only; omega⟩
          · dsimp only
            rw [On.st_ a0 (by omega), a3 x]
            constructor
            · rintro (⟨rfl, h⟩ | ⟨e, h | ⟨h1, h2⟩⟩)
              · exact .inr ⟨by omega, hc.1, b1.1 h⟩
              · exact .inl h
              · exact .inr ⟨by omega, h2⟩
            · intro h
              by_cases e : x = i
              · subst e
                rcases h with h | ⟨_, _, h⟩
                · exact absurd h hc.2
                · exact .inl ⟨rfl, b1.2 h⟩
              · rcases h with h | ⟨h1, h2⟩
                · exact .inr ⟨e, .inl h⟩
                · exact .inr ⟨e, .inr ⟨by omega, h2⟩⟩
          · dsimp only
            rw [Bool.or_eq_true, a4, b1]
            constructor
            · rintro (⟨x, h1, h2⟩ | h)
              · exact ⟨x, by omega, h2⟩
              · exact ⟨i, by omega, hc.2, hc.1, h⟩
            · rintro ⟨x, h1, h2⟩
              by_cases e : x = i
              · subst e; exact .inr h2.2.2
              · exact .inl ⟨x, by omega, h2⟩
        · have e1 : ¬ (gt inn i && !(gt a i)) = true := fun h => by
            simp only [Bool.and_eq_true, Bool.not_eq_true'] at h
            exact hc ⟨⟨a0, by omega, h.1⟩, fun k => by have := k.2.2; rw [h.2] at this; cases this⟩
          rw [if_neg e1, jn_inl]
          refine ⟨_, rfl, ⟨by dsimp only; omega, by dsimp only; omega, a2, fun x => ?_, ?_⟩, by dsimp only; omega⟩
          · dsimp only
            rw [a3 x]
            constructor
            · rintro (h | ⟨h1, h2⟩)
              · exact .inl h
              · exact .inr ⟨by omega, h2⟩
            · rintro (h | ⟨h1, h2⟩)
              · exact .inl h
              · by_cases e : x = i
                · subst e
                  by_cases ho : On a x
                  · exact .inl ho
                  · exact absurd ⟨h2.1, ho⟩ hc
                · exact .inr ⟨by omega, h2⟩
          · dsimp only
            rw [a4]
            constructor
            · rintro ⟨x, h1, h2⟩; exact ⟨x, by omega, h2⟩
            · rintro ⟨x, h1, h2, h3, h4⟩
              by_cases e : x = i
              · subst e; exact absurd ⟨h3, h2⟩ hc
              · exact ⟨x, by omega, h2, h3, h4⟩
      · left
        rw [if_neg hlt]
        refine ⟨_, rfl, b, m, rfl, a2, fun x => ?_, ?_⟩
        · rw [a3 x]
          exact ⟨fun h => h.imp id fun h => h.2, fun h => h.imp id fun h => ⟨by have := h.1.2.1; omega, h⟩⟩
        · rw [a4]
          exact ⟨fun ⟨x, h⟩ => ⟨x, h.2⟩, fun ⟨x, h⟩ => ⟨x, by have := h.2.1.2.1; omega, h⟩⟩) (([] : List Bool) ++ a, false, 0)
    ⟨Int.le_refl _, by dsimp only; omega, by simp; exact ha, fun x => by
      dsimp only
      rw [List.nil_append]
      exact ⟨.inl, fun h => h.elim id fun h => by have := h.2.1.1; omega⟩, by
      dsimp only
      exact ⟨fun h => (by cases h), fun ⟨x, h⟩ => by have := h.2.2.1.1; omega⟩⟩
  exact ⟨b, m, hr, h1, h2, h3⟩
theorem attract_run {inn to : List Bool} {p : Int} (g : GR O P M) (hrow : ∀ r ∈ M, (r.length : Int) ≤ 9223372036854775807) (hi : inn.length = O.length) (ht : to.length = O.length) (hsub : ∀ x, On to x → On inn x) (hsg : Sg (gt M) (On inn)) :
    ∃ a rk, bailiffref12_Attract.f O P M inn p to = some a ∧ a.length = O.length ∧ Att (gt O) (gt M) (On inn) (On to) (On a) p rk := by
  have hlo := g.lo
  have hmany := g.many
  obtain ⟨a0, e0, l0, o0⟩ := att0_run (O := O) (inn := inn) (to := to) (by omega) hi ht
  obtain ⟨r, hr, a, rfl, h1, rk, h2⟩ := iter_meas (body := fun t_ : (List Bool) × Bool => bailiffref12_Attract.l1b O P M inn p t_.1 t_.2)
    (fun s => s.1.length = O.length ∧ ∃ (rk : Int → Nat) (k : Nat), (∀ x, On s.1 x → rk x ≤ k ∧ On inn x) ∧ (∀ x, On to x → On s.1 x) ∧ (∀ x, On s.1 x → ¬ On to x → gt O x = p → ∃ y ∈ gt M x, On s.1 y ∧ rk y < rk x) ∧
      (∀ x, On s.1 x → ¬ On to x → gt O x ≠ p → ∀ y ∈ gt M x, On inn y → On s.1 y ∧ rk y < rk x) ∧ (s.2 = false → ∀ x, On inn x → ¬ On s.1 x → ¬ StepP O M inn p s.1 x))
    (fun r => ∃ a, r = .inl a ∧ a.length = O.length ∧ ∃ rk, Att (gt O) (gt M) (On inn) (On to) (On a) p rk) (fun s => 2 * (O.length - s.1.count true) + if s.2 then 1 else 0)
    (fun ⟨a, m⟩ ⟨b0, rk, k, b1, b2, b3, b4, b5⟩ => by
      dsimp only at b0 b1 b2 b3 b4 b5 ⊢
      unfold bailiffref12_Attract.l1b
      cases m with
      | true =>
        right
        obtain ⟨b, m', c0, c1, c2, c3⟩ := att2_run (p := p) g hrow hi b0
        rw [if_pos rfl, if_pos (by simp; omega), c0, jn_inl]
        have hcb : b.count true ≤ O.length := by have := List.count_le_length (a := true) (l := b); omega
        refine ⟨_, rfl, ⟨c1, fun x => if On a x then rk x else k + 1, k + 1, fun x hx => ?_, fun x hx => (c2 x).2 (.inl (b2 x hx)), fun x hx hnt ho => ?_, fun x hx hnt ho y hy hyi => ?_, fun hm x hxi hxn hs => ?_⟩, ?_⟩
        · dsimp only
          by_cases hxa : On a x
          · rw [if_pos hxa]; exact ⟨by have := (b1 x hxa).1; omega, (b1 x hxa).2⟩
          · rw [if_neg hxa]; exact ⟨Nat.le_refl _, (((c2 x).1 hx).resolve_left hxa).1⟩
        · dsimp only
          by_cases hxa : On a x
          · obtain ⟨y, hy, hya, hlt⟩ := b3 x hxa hnt ho
            rw [if_pos hxa]
            exact ⟨y, hy, (c2 y).2 (.inl hya), by rw [if_pos hya]; exact hlt⟩
          · have hs := (((c2 x).1 hx).resolve_left hxa).2
            unfold StepP at hs
            rw [if_pos ho] at hs
            obtain ⟨y, hy, _, hya⟩ := hs
            rw [if_neg hxa]
            exact ⟨y, hy, (c2 y).2 (.inl hya), by rw [if_pos hya]; have := (b1 y hya).1; omega⟩
        · dsimp only
          by_cases hxa : On a x
          · obtain ⟨hya, hlt⟩ := b4 x hxa hnt ho y hy hyi
            rw [if_pos hxa, if_pos hya]
            exact ⟨(c2 y).2 (.inl hya), hlt⟩
          · have hs := (((c2 x).1 hx).resolve_left hxa).2
            unfold StepP at hs
            rw [if_neg ho] at hs
            have hya := hs.2 y hy hyi
            rw [if_neg hxa, if_pos hya]
            exact ⟨(c2 y).2 (.inl hya), by have := (b1 y hya).1; omega⟩
        · dsimp only at hm hxn hs
          have hno : ∀ x, ¬ (¬ On a x ∧ On inn x ∧ StepP O M inn p a x) := fun x h => by have := c3.2 ⟨x, h⟩; rw [hm] at this; cases this
          have hab : ∀ y, On b y ↔ On a y := fun y => by
            rw [c2 y]
            exact ⟨fun h => h.elim id fun h => Classical.byContradiction fun hn => hno y ⟨hn, h⟩, .inl⟩
          have hxna : ¬ On a x := fun h => hxn ((hab x).2 h)
          refine hno x ⟨hxna, hxi, ?_⟩
          unfold StepP at hs ⊢
          simp only [hab] at hs
          exact hs
        · dsimp only
          cases m' with
          | true =>
            obtain ⟨x, hxa, hxi, hs⟩ := c3.1 rfl
            have := on_lt (a := a) (b := b) (by omega) (fun y hy => (c2 y).2 (.inl hy)) ((c2 x).2 (.inr ⟨hxi, hs⟩)) hxa
            simp
            omega
          | false =>
            have hle : a.count true ≤ b.count true := by
              by_cases hex : ∃ x, On b x ∧ ¬ On a x
              · obtain ⟨x, hx, hxn⟩ := hex
                exact Nat.le_of_lt (on_lt (by omega) (fun y hy => (c2 y).2 (.inl hy)) hx hxn)
              · have : a = b := by
                  apply List.ext_getElem?
                  intro i
                  by_cases hlt : i < a.length
                  · have hlt' : i < b.length := by omega
                    have hiff : a[i]? = some true ↔ b[i]? = some true := by
                      rw [On.get, On.get]
                      exact ⟨fun h => (c2 _).2 (.inl h), fun h => Classical.byContradiction fun hn => hex ⟨_, h, hn⟩⟩
                    rw [List.getElem?_eq_getElem hlt, List.getElem?_eq_getElem hlt'] at hiff ⊢
                    simp only [Option.some.injEq] at hiff
                    rw [Bool.eq_iff_iff.2 hiff]
                  · rw [List.getElem?_eq_none (by omega), List.getElem?_eq_none (by omega)]
                rw [this]
                exact Nat.le_refl _
            simp
            omega
      | false =>
        left
        rw [if_neg (by simp)]
        refine ⟨_, rfl, a, rfl, b0, rk, ⟨fun x hx => (b1 x hx).2, b2, b3, b4, fun x hx hn ho y hy hya => ?_, fun x hx hn ho => ?_⟩⟩
        · refine b5 rfl x hx hn ?_
          unfold StepP
          rw [if_pos ho]
          exact ⟨y, hy, (b1 y hya).2, hya⟩
        · refine Classical.byContradiction fun hne => b5 rfl x hx hn ?_
          unfold StepP
          rw [if_neg ho]
          obtain ⟨y, hy, hyi⟩ := hsg x hx
          exact ⟨⟨y, hy, hyi⟩, fun z hz hzi => Classical.byContradiction fun hza => hne ⟨z, hz, hzi, hza⟩⟩) (a0, true)
    ⟨l0, fun _ => 0, 0, fun x hx => ⟨Nat.le_refl _, ((o0 x).1 hx).1⟩, fun x hx => (o0 x).2 ⟨hsub x hx, hx⟩, fun x hx hn => absurd ((o0 x).1 hx).2 hn, fun x hx hn => absurd ((o0 x).1 hx).2 hn, fun h => by cases h⟩
  refine ⟨a, rk, ?_, h1, h2⟩
  unfold bailiffref12_Attract.f
  have hl : bailiffref12_Attract.l1 O P M inn p a0 true = some (.inl a) := hr
  rw [if_pos ⟨by omega, by omega⟩, e0, jn_inl, hl, jn_inl]
end
end Go.Bw
