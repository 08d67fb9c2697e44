/- The document's solver: the recursion's regions are won, each by its player; the answer as lists. Conditions: none. -/
import Derived.Test.YtmkidaijgdgcjaaBwOne1
import Derived.Test.YtmkidaijgdgcjaaBwIs09
set_option linter.unusedVariables false
set_option linter.unusedSimpArgs false
set_option linter.unusedSectionVars false
namespace Go.Bw
open Go Go.RowKit Tj Pg

section
variable {O P : List Int} {M : List (List Int)}
/-- Two regions of a part of the game, each won by its player. -/
structure Wn (O P : List Int) (M : List (List Int)) (inn : List Bool) (r : List Bool × List Bool) : Prop where
  l0 : r.1.length = O.length
  l1 : r.2.length = O.length
  part : ∀ x, On inn x → On r.1 x ∨ On r.2 x
  w0 : ∃ σ, Win (gt O) (gt P) (gt M) (On inn) 0 (On r.1) σ
  w1 : ∃ σ, Win (gt O) (gt P) (gt M) (On inn) 1 (On r.2) σ
theorem top13_run {inn : List Bool} (g : GR O P M) (hi : inn.length = O.length) (hne : ∃ x, On inn x) :
    ∃ t, bailiffref13_won.l0 P inn (-1) 0 = some (.inl t) ∧ (∀ x, On inn x → gt P x ≤ t) ∧ ∃ x, On inn x ∧ gt P x = t := by
  have hlo := g.lo
  have hlp := g.lp
  have hmany := g.many
  obtain ⟨r, hr, t, rfl, h1, h2⟩ := iter_meas (body := fun t_ : Int × Int => bailiffref13_won.l0b P inn t_.1 t_.2)
    (fun s => 0 ≤ s.2 ∧ s.2 ≤ (inn.length : Int) ∧ (∀ x, x < s.2 → On inn x → gt P x ≤ s.1) ∧ ((s.1 = -1 ∧ ∀ x, x < s.2 → ¬ On inn x) ∨ ∃ x, On inn x ∧ gt P x = s.1))
    (fun r => ∃ t, r = .inl t ∧ (∀ x, On inn x → gt P x ≤ t) ∧ ((t = -1 ∧ ∀ x, ¬ On inn x) ∨ ∃ x, On inn x ∧ gt P x = t)) (fun s => (inn.length - s.2).toNat)
    (fun ⟨t, i⟩ ⟨a0, a1, a2, a3⟩ => by
      dsimp only at a0 a1 a2 a3 ⊢
      unfold bailiffref13_won.l0b
      by_cases hlt : i < (inn.length : Int)
      · right
        have hpl : (0 : Int) ≤ i ∧ i < (P.length : Int) := ⟨a0, by omega⟩
        rw [if_pos hlt, if_pos ⟨a0, hlt⟩, wrap64 (x := i + 1) (by omega) (by omega)]
        by_cases h : gt inn i = true
        · have ho : On inn i := ⟨a0, hlt, h⟩
          have hpr := g.prio i ⟨a0, by omega⟩
          rw [if_pos h, if_pos hpl, jn_inl]
          by_cases hb : t < gt P i
          · rw [if_pos (decide_eq_true hb), if_pos hpl, jn_inl]
            refine ⟨_, rfl, ⟨by dsimp only; omega, by dsimp only; omega, fun x hx hox => ?_, .inr ⟨i, ho, rfl⟩⟩, by dsimp only; omega⟩
            dsimp only at hx ⊢
            by_cases e : x = i
            · subst e; exact Int.le_refl _
            · have := a2 x (by omega) hox; omega
          · rw [if_neg (by simp; omega), jn_inl]
            refine ⟨_, rfl, ⟨by dsimp only; omega, by dsimp only; omega, fun x hx hox => ?_, a3.elim (fun ⟨h1, h2⟩ => by dsimp only; omega) .inr⟩, by dsimp only; omega⟩
            dsimp only at hx ⊢
            by_cases e : x = i
            · subst e; omega
            · exact a2 x (by omega) hox
        · rw [if_neg h, jn_inl, if_neg (by simp), jn_inl]
          refine ⟨_, rfl, ⟨by dsimp only; omega, by dsimp only; omega, fun x hx hox => ?_, a3.imp (fun ⟨h1, h2⟩ => ⟨h1, fun x hx hox => ?_⟩) id⟩, by dsimp only; omega⟩
          · dsimp only at hx ⊢
            by_cases e : x = i
            · subst e; exact absurd hox.2.2 h
            · exact a2 x (by omega) hox
          · dsimp only at hx
            by_cases e : x = i
            · subst e; exact h hox.2.2
            · exact h2 x (by omega) hox
      · left
        rw [if_neg hlt]
        exact ⟨_, rfl, t, rfl, fun x hox => a2 x (by have := hox.2.1; omega) hox, a3.imp (fun ⟨h1, h2⟩ => ⟨h1, fun x hox => h2 x (by have := hox.2.1; omega) hox⟩) id⟩) (-1, 0) ⟨Int.le_refl _, by dsimp only; omega, fun x hx hox => by have := hox.1; dsimp only at hx; omega, .inl ⟨rfl, fun x hx hox => by have := hox.1; dsimp only at hx; omega⟩⟩
  refine ⟨t, hr, h1, h2.resolve_left fun ⟨_, h⟩ => ?_⟩
  obtain ⟨x, hx⟩ := hne
  exact h x hx
theorem most13_run {inn : List Bool} {t : Int} (hlp : P.length = inn.length) (hN : (inn.length : Int) ≤ 1048576) :
    ∃ m, bailiffref13_won.l1 P inn t (List.replicate (inn.length : Int).toNat (false : Bool)) 0 = some (.inl m) ∧ m.length = inn.length ∧ ∀ x, On m x ↔ On inn x ∧ gt P x = t := by
  obtain ⟨r, hr, c, rfl, h1, h2⟩ := iter_meas (body := fun t_ : (List Bool) × Int => bailiffref13_won.l1b P inn t t_.1 t_.2)
    (fun s => 0 ≤ s.2 ∧ s.2 ≤ (inn.length : Int) ∧ s.1.length = inn.length ∧ ∀ x, On s.1 x ↔ x < s.2 ∧ On inn x ∧ gt P x = t)
    (fun r => ∃ c, r = .inl c ∧ c.length = inn.length ∧ ∀ x, On c x ↔ On inn x ∧ gt P x = t) (fun s => (inn.length - s.2).toNat)
    (fun ⟨c, i⟩ ⟨a0, a1, a2, a3⟩ => by
      dsimp only at a0 a1 a2 a3 ⊢
      unfold bailiffref13_won.l1b
      by_cases hlt : i < (inn.length : Int)
      · right
        have htest : ∀ {ρ : Type} (f : Bool → Option ρ), jn (if gt inn i = true then (if (0 : Int) ≤ i ∧ i < (P.length : Int) then some (.inl (decide (gt P i = t))) else none) else some (.inl false)) f = f (gt inn i && decide (gt P i = t)) := fun f => by
          by_cases h : gt inn i = true
          · rw [if_pos h, if_pos ⟨a0, by omega⟩, jn_inl, h, Bool.true_and]
          · have h' : gt inn i = false := by simpa using h
            rw [if_neg h, jn_inl, h', Bool.false_and]
        rw [if_pos hlt, if_pos ⟨a0, hlt⟩, htest, if_pos (by simp; omega), wrap64 (x := i + 1) (by omega) (by omega)]
        refine ⟨_, rfl, ⟨by dsimp only; omega, by dsimp only; omega, by dsimp only; rw [st_len]; exact a2, fun x => ?_⟩, by dsimp only; omega⟩
        dsimp only
        rw [On.st_ a0 (by omega), a3 x]
        constructor
        · rintro (⟨rfl, h⟩ | ⟨h1, h2, h3⟩)
          · simp only [Bool.and_eq_true, decide_eq_true_iff] at h
            exact ⟨by omega, ⟨a0, hlt, h.1⟩, h.2⟩
          · exact ⟨by omega, h3⟩
        · rintro ⟨h1, h2, h3⟩
          by_cases e : x = i
          · subst e
            exact .inl ⟨rfl, by rw [h2.2.2, decide_eq_true h3]; rfl⟩
          · exact .inr ⟨e, by omega, h2, h3⟩
      · left
        rw [if_neg hlt]
        refine ⟨_, rfl, c, rfl, a2, fun x => ?_⟩
        rw [a3 x]
        exact ⟨fun h => h.2, fun h => ⟨by have := h.1.2.1; omega, h⟩⟩) (List.replicate (inn.length : Int).toNat false, 0) ⟨Int.le_refl _, by dsimp only; omega, by simp, fun x => ⟨fun h => absurd h On.rep, fun h => by have := h.2.1.1; have := h.1; dsimp only at this; omega⟩⟩
  exact ⟨c, hr, h1, h2⟩
theorem put13_run {inn B : List Bool} {t : Int} {r : List Bool × List Bool} (hb : B.length = inn.length) (h1 : r.1.length = inn.length) (h2 : r.2.length = inn.length) (hN : (inn.length : Int) ≤ 1048576) :
    ∃ x y, bailiffref13_won.l2 inn t B r r.1 r.2 0 = some (.inl (x, y)) ∧ x.length = inn.length ∧ y.length = inn.length ∧ (∀ z, On x z ↔ (On B z ∧ Int.tmod t 2 = 1) ∨ (¬ On B z ∧ On r.1 z)) ∧ (∀ z, On y z ↔ (On B z ∧ Int.tmod t 2 = 0) ∨ (¬ On B z ∧ On r.2 z)) := by
  obtain ⟨q, hq, x, y, rfl, b1, b2, b3, b4⟩ := iter_meas (body := fun t_ : (List Bool) × (List Bool) × Int => bailiffref13_won.l2b inn t B r t_.1 t_.2.1 t_.2.2)
    (fun s => 0 ≤ s.2.2 ∧ s.2.2 ≤ (inn.length : Int) ∧ s.1.length = inn.length ∧ s.2.1.length = inn.length ∧ (∀ z, On s.1 z ↔ (z < s.2.2 ∧ On B z ∧ Int.tmod t 2 = 1) ∨ (¬ (z < s.2.2 ∧ On B z) ∧ On r.1 z)) ∧ (∀ z, On s.2.1 z ↔ (z < s.2.2 ∧ On B z ∧ Int.tmod t 2 = 0) ∨ (¬ (z < s.2.2 ∧ On B z) ∧ On r.2 z)))
    (fun q => ∃ x y, q = .inl (x, y) ∧ x.length = inn.length ∧ y.length = inn.length ∧ (∀ z, On x z ↔ (On B z ∧ Int.tmod t 2 = 1) ∨ (¬ On B z ∧ On r.1 z)) ∧ (∀ z, On y z ↔ (On B z ∧ Int.tmod t 2 = 0) ∨ (¬ On B z ∧ On r.2 z))) (fun s => (inn.length - s.2.2).toNat)
    (fun ⟨x, y, i⟩ ⟨a0, a1, a2, a3, a4, a5⟩ => by
      dsimp only at a0 a1 a2 a3 a4 a5 ⊢
      unfold bailiffref13_won.l2b
      by_cases hlt : i < (inn.length : Int)
      · right
        have hst : ∀ {w b : List Bool} {v : Bool} {p : Prop} (hv : v = true ↔ p) (hob : On B i) (hw : w.length = inn.length) (h : ∀ z, On w z ↔ (z < i ∧ On B z ∧ p) ∨ (¬ (z < i ∧ On B z) ∧ On b z)), ∀ z, On (st w i v) z ↔ (z < i + 1 ∧ On B z ∧ p) ∨ (¬ (z < i + 1 ∧ On B z) ∧ On b z) := fun hv hob hw h z => by
          rw [On.st_ a0 (by omega), h z]
          by_cases e : z = i
          · subst e
            constructor
            · rintro (⟨_, k⟩ | ⟨k, _⟩)
              · exact .inl ⟨by omega, hob, hv.1 k⟩
              · exact absurd rfl k
            · rintro (⟨_, _, k⟩ | ⟨k, _⟩)
              · exact .inl ⟨rfl, hv.2 k⟩
              · exact absurd ⟨by omega, hob⟩ k
          · have hlt' : (z < i + 1) ↔ z < i := by omega
            rw [hlt']
            simp [e]
        have hno : ∀ {w b : List Bool} {p : Prop} (hob : ¬ On B i) (h : ∀ z, On w z ↔ (z < i ∧ On B z ∧ p) ∨ (¬ (z < i ∧ On B z) ∧ On b z)), ∀ z, On w z ↔ (z < i + 1 ∧ On B z ∧ p) ∨ (¬ (z < i + 1 ∧ On B z) ∧ On b z) := fun hob h z => by
          rw [h z]
          by_cases e : z = i
          · subst e; simp [hob]
          · have hlt' : (z < i + 1) ↔ z < i := by omega
            rw [hlt']
        rw [if_pos hlt, if_pos ⟨a0, by omega⟩, wrap64 (x := i + 1) (by omega) (by omega)]
        by_cases h : gt B i = true
        · have ho : On B i := ⟨a0, by omega, h⟩
          rw [if_pos h, if_pos ⟨a0, by omega⟩, if_pos ⟨a0, by omega⟩, jn_inl]
          exact ⟨_, rfl, ⟨by dsimp only; omega, by dsimp only; omega, by dsimp only; rw [st_len]; exact a2, by dsimp only; rw [st_len]; exact a3, hst (by rw [decide_eq_true_iff]) ho a2 a4, hst (by rw [decide_eq_true_iff]) ho a3 a5⟩, by dsimp only; omega⟩
        · have ho : ¬ On B i := fun k => h k.2.2
          rw [if_neg h, jn_inl]
          exact ⟨_, rfl, ⟨by dsimp only; omega, by dsimp only; omega, a2, a3, hno ho a4, hno ho a5⟩, by dsimp only; omega⟩
      · left
        rw [if_neg hlt]
        have hB : ∀ z, (z < i ∧ On B z) ↔ On B z := fun z => ⟨fun h => h.2, fun h => ⟨by have := h.2.1; omega, h⟩⟩
        refine ⟨_, rfl, x, y, rfl, a2, a3, fun z => ?_, fun z => ?_⟩
        · rw [a4 z, ← and_assoc, hB z]
        · rw [a5 z, ← and_assoc, hB z]) (r.1, r.2, 0) ⟨Int.le_refl _, by dsimp only; omega, h1, h2, fun z => by
          dsimp only
          constructor
          · exact fun h => .inr ⟨fun k => by have := k.2.1; omega, h⟩
          · exact fun h => h.elim (fun k => by have := k.2.1.1; omega) (fun k => k.2), fun z => by
          dsimp only
          constructor
          · exact fun h => .inr ⟨fun k => by have := k.2.1; omega, h⟩
          · exact fun h => h.elim (fun k => by have := k.2.1.1; omega) (fun k => k.2)⟩
  exact ⟨x, y, hq, b1, b2, b3, b4⟩
theorem l3_l2 : bailiffref13_won.l3 = bailiffref13_won.l2 := rfl
theorem win_none {S : Int → Prop} {p : Int} {n : Nat} : ∃ σ, Win (gt O) (gt P) (gt M) S p (On (List.replicate n false)) σ :=
  ⟨fun _ => 0, ⟨fun x h => absurd h On.rep, fun x h => absurd h On.rep, fun x h => absurd h On.rep, fun x h => absurd h On.rep⟩⟩
theorem won13_ok (g : GR O P M) (hrow : ∀ r ∈ M, (r.length : Int) ≤ 9223372036854775807) : ∀ (k : Nat) (inn : List Bool), inn.length = O.length → Sg (gt M) (On inn) →
    (∃ r, bailiffref13_won.n k O P M inn = some r ∧ Wn O P M inn r) ∨ (bailiffref13_won.n k O P M inn = none ∧ k ≤ inn.count true) := by
  have hlo := g.lo
  have hlp := g.lp
  have hmany := g.many
  intro k
  induction k with
  | zero => exact fun inn _ _ => .inr ⟨rfl, Nat.zero_le _⟩
  | succ k ih =>
    intro inn hi hsg
    have hown : ∀ x, On inn x → gt O x = 0 ∨ gt O x = 1 := fun x hx => by have := g.own x ⟨hx.1, by have := hx.2.1; omega⟩; omega
    have hn : bailiffref13_won.n (k + 1) O P M inn = bailiffref13_won.g (bailiffref13_won.n k) O P M inn := rfl
    rw [hn]
    unfold bailiffref13_won.g
    obtain ⟨s, hs, hs'⟩ := some_run13 (b := inn) (by omega)
    rw [hs]
    simp only [Option.bind_some]
    by_cases hne : ∃ x, On inn x
    · obtain ⟨t, ht, ht1, ht2⟩ := top13_run g hi hne
      obtain ⟨m, hm, hml, hm'⟩ := most13_run (P := P) (inn := inn) (t := t) (by omega) (by omega)
      rw [if_pos (hs'.2 hne), ht, jn_inl, if_pos ⟨by omega, by omega⟩, hm, jn_inl]
      obtain ⟨x0, hx0, hx0t⟩ := ht2
      have ht0 : 0 ≤ t := by rw [← hx0t]; exact (g.prio x0 ⟨hx0.1, by have := hx0.2.1; omega⟩).1
      have htm : Int.tmod t 2 = t % 2 := Int.tmod_eq_emod_of_nonneg ht0
      obtain ⟨a, rka, ha, hal, hatt⟩ := attract_run (p := Int.tmod t 2) (inn := inn) (to := m) g hrow hi (by omega) (fun x hx => ((hm' x).1 hx).1) hsg
      obtain ⟨s1, hs1, hs1l, hs1'⟩ := less_run13 (a := inn) (b := a) (by omega) (by omega)
      rw [ha]
      simp only [Option.bind_some]
      rw [hs1]
      simp only [Option.bind_some]
      have hS1 : (fun x => On inn x ∧ ¬ On a x) = On s1 := funext fun x => propext (hs1' x).symm
      have hsg1 : Sg (gt M) (On s1) := hS1 ▸ hatt.sg hsg
      have hlt1 : s1.count true < inn.count true := on_lt (by omega) (fun x hx => ((hs1' x).1 hx).1) hx0 (fun h => ((hs1' x0).1 h).2 (hatt.base x0 ((hm' x0).2 ⟨hx0, hx0t⟩)))
      rcases ih s1 (by omega) hsg1 with ⟨r1, hr1, w⟩ | ⟨hnone, hle⟩
      rotate_left
      · right
        rw [hnone]
        exact ⟨rfl, by omega⟩
      rw [hr1]
      simp only [Option.bind_some]
      by_cases hp : Int.tmod t 2 = 1
      · rw [if_pos hp]
        obtain ⟨s2, hs2, hs2'⟩ := some_run13 (b := r1.1) (by have := w.l0; omega)
        rw [hs2]
        simp only [Option.bind_some]
        have hq : IntKind.i64.wrap (1 - Int.tmod t 2) = 0 := by rw [hp]; rfl
        obtain ⟨σ0, w0⟩ := w.w0
        obtain ⟨σ1, w1⟩ := w.w1
        have hlsub : ∀ x, On r1.1 x → On inn x := fun x hx => ((hs1' x).1 (w0.sub x hx)).1
        by_cases hl : ∃ x, On r1.1 x
        · rw [if_pos (hs2'.2 hl), hq]
          obtain ⟨b, rkb, hb, hbl, hbtt⟩ := attract_run (p := 0) (inn := inn) (to := r1.1) g hrow hi w.l0 hlsub hsg
          obtain ⟨s3, hs3, hs3l, hs3'⟩ := less_run13 (a := inn) (b := b) (by omega) (by omega)
          rw [hb]
          simp only [Option.bind_some]
          rw [hs3]
          simp only [Option.bind_some]
          have hS3 : (fun x => On inn x ∧ ¬ On b x) = On s3 := funext fun x => propext (hs3' x).symm
          have hsg3 : Sg (gt M) (On s3) := hS3 ▸ hbtt.sg hsg
          obtain ⟨x1, hx1⟩ := hl
          have hlt3 : s3.count true < inn.count true := on_lt (by omega) (fun x hx => ((hs3' x).1 hx).1) (hlsub x1 hx1) (fun h => ((hs3' x1).1 h).2 (hbtt.base x1 hx1))
          rcases ih s3 (by omega) hsg3 with ⟨r3, hr3, v⟩ | ⟨hnone, hle⟩
          · left
            rw [hr3]
            simp only [Option.bind_some]
            obtain ⟨x, y, hxy, hxl, hyl, hx, hy⟩ := put13_run (inn := inn) (B := b) (t := t) (r := r3) (by omega) (by have := v.l0; omega) (by have := v.l1; omega) (by omega)
            rw [hxy, jn_inl]
            obtain ⟨τ0, v0⟩ := v.w0
            obtain ⟨τ1, v1⟩ := v.w1
            have hnb : ∀ z, On r3.1 z ∨ On r3.2 z → ¬ On b z := fun z hz => ((hs3' z).1 (hz.elim (v0.sub z) (v1.sub z))).2
            have hX : On x = (fun z => On b z ∨ On r3.1 z) := funext fun z => propext (by
              rw [hx z, hp]
              constructor
              · rintro (h | h)
                · exact .inl h.1
                · exact .inr h.2
              · rintro (h | h)
                · exact .inl ⟨h, rfl⟩
                · exact .inr ⟨hnb z (.inl h), h⟩)
            have hY : On y = On r3.2 := funext fun z => propext (by
              rw [hy z, hp]
              constructor
              · rintro (h | h)
                · exact absurd h.2 (by decide)
                · exact h.2
              · intro h
                exact .inr ⟨hnb z (.inr h), h⟩)
            refine ⟨_, rfl, ⟨by dsimp only; omega, by dsimp only; omega, fun z hz => ?_, ?_, ?_⟩⟩
            · dsimp only
              by_cases hzb : On b z
              · exact .inl (by have := congrFun hX z; rw [this]; exact .inl hzb)
              · rcases v.part z ((hs3' z).2 ⟨hz, hzb⟩) with h | h
                · exact .inl (by have := congrFun hX z; rw [this]; exact .inr h)
                · exact .inr (by have := congrFun hY z; rw [this]; exact h)
            · dsimp only
              rw [hX]; exact win_add (p := 1) (q := 0) (fun x hx ho => by have := hown x hx; omega) (by rw [hp] at hatt; exact hatt) (by rw [hS1]; exact w0) hbtt (by rw [hS3]; exact v0)
            · dsimp only
              rw [hY]; exact ⟨_, win_sub (q := 0) (fun x hx ho => by have := hown x hx; omega) hbtt (by rw [hS3]; exact v1)⟩
          · right
            rw [hnone]
            exact ⟨rfl, by omega⟩
        · left
          rw [if_neg (fun h => hl (hs2'.1 h)), if_neg (show ¬ Int.tmod t 2 = 0 by omega)]
          have hR : On r1.2 = On s1 := funext fun x => propext ⟨w1.sub x, fun h => (w.part x h).resolve_left fun h => hl ⟨x, h⟩⟩
          rw [hR, ← hS1] at w1
          have hall := win_all (own := gt O) (pri := gt P) (mvs := gt M) (p := 1) (top := t) hsg hm' ht1 (by rw [← htm, hp]) (by rw [hp] at hatt; exact hatt) w1
          refine ⟨_, rfl, ⟨by simp; omega, by simp; omega, fun z hz => .inr hz, win_none, hall⟩⟩
      · have hp : Int.tmod t 2 = 0 := by rw [htm] at hp ⊢; omega
        rw [if_neg (show ¬ Int.tmod t 2 = 1 by omega)]
        obtain ⟨s2, hs2, hs2'⟩ := some_run13 (b := r1.2) (by have := w.l1; omega)
        rw [hs2]
        simp only [Option.bind_some]
        have hq : IntKind.i64.wrap (1 - Int.tmod t 2) = 1 := by rw [hp]; rfl
        obtain ⟨σ0, w0⟩ := w.w0
        obtain ⟨σ1, w1⟩ := w.w1
        have hlsub : ∀ x, On r1.2 x → On inn x := fun x hx => ((hs1' x).1 (w1.sub x hx)).1
        by_cases hl : ∃ x, On r1.2 x
        · rw [if_pos (hs2'.2 hl), hq]
          obtain ⟨b, rkb, hb, hbl, hbtt⟩ := attract_run (p := 1) (inn := inn) (to := r1.2) g hrow hi w.l1 hlsub hsg
          obtain ⟨s3, hs3, hs3l, hs3'⟩ := less_run13 (a := inn) (b := b) (by omega) (by omega)
          rw [hb]
          simp only [Option.bind_some]
          rw [hs3]
          simp only [Option.bind_some]
          have hS3 : (fun x => On inn x ∧ ¬ On b x) = On s3 := funext fun x => propext (hs3' x).symm
          have hsg3 : Sg (gt M) (On s3) := hS3 ▸ hbtt.sg hsg
          obtain ⟨x1, hx1⟩ := hl
          have hlt3 : s3.count true < inn.count true := on_lt (by omega) (fun x hx => ((hs3' x).1 hx).1) (hlsub x1 hx1) (fun h => ((hs3' x1).1 h).2 (hbtt.base x1 hx1))
          rcases ih s3 (by omega) hsg3 with ⟨r3, hr3, v⟩ | ⟨hnone, hle⟩
          · left
            rw [hr3]
            simp only [Option.bind_some]
            obtain ⟨x, y, hxy, hxl, hyl, hx, hy⟩ := put13_run (inn := inn) (B := b) (t := t) (r := r3) (by omega) (by have := v.l0; omega) (by have := v.l1; omega) (by omega)
            rw [l3_l2, hxy, jn_inl]
            obtain ⟨τ0, v0⟩ := v.w0
            obtain ⟨τ1, v1⟩ := v.w1
            have hnb : ∀ z, On r3.1 z ∨ On r3.2 z → ¬ On b z := fun z hz => ((hs3' z).1 (hz.elim (v0.sub z) (v1.sub z))).2
            have hX : On y = (fun z => On b z ∨ On r3.2 z) := funext fun z => propext (by
              rw [hy z, hp]
              constructor
              · rintro (h | h)
                · exact .inl h.1
                · exact .inr h.2
              · rintro (h | h)
                · exact .inl ⟨h, rfl⟩
                · exact .inr ⟨hnb z (.inr h), h⟩)
            have hY : On x = On r3.1 := funext fun z => propext (by
              rw [hx z, hp]
              constructor
              · rintro (h | h)
                · exact absurd h.2 (by decide)
                · exact h.2
              · intro h
                exact .inr ⟨hnb z (.inl h), h⟩)
            refine ⟨_, rfl, ⟨by dsimp only; omega, by dsimp only; omega, fun z hz => ?_, ?_, ?_⟩⟩
            · dsimp only
              by_cases hzb : On b z
              · exact .inr (by have := congrFun hX z; rw [this]; exact .inl hzb)
              · rcases v.part z ((hs3' z).2 ⟨hz, hzb⟩) with h | h
                · exact .inl (by have := congrFun hY z; rw [this]; exact h)
                · exact .inr (by have := congrFun hX z; rw [this]; exact .inr h)
            · dsimp only
              rw [hY]; exact ⟨_, win_sub (q := 1) (fun x hx ho => by have := hown x hx; omega) hbtt (by rw [hS3]; exact v0)⟩
            · dsimp only
              rw [hX]; exact win_add (p := 0) (q := 1) (fun x hx ho => by have := hown x hx; omega) (by rw [hp] at hatt; exact hatt) (by rw [hS1]; exact w1) hbtt (by rw [hS3]; exact v1)
          · right
            rw [hnone]
            exact ⟨rfl, by omega⟩
        · left
          rw [if_neg (fun h => hl (hs2'.1 h)), if_pos hp]
          have hR : On r1.1 = On s1 := funext fun x => propext ⟨w0.sub x, fun h => (w.part x h).resolve_right fun h => hl ⟨x, h⟩⟩
          rw [hR, ← hS1] at w0
          have hall := win_all (own := gt O) (pri := gt P) (mvs := gt M) (p := 0) (top := t) hsg hm' ht1 (by rw [← htm, hp]) (by rw [hp] at hatt; exact hatt) w0
          refine ⟨_, rfl, ⟨by simp; omega, by simp; omega, fun z hz => .inl hz, hall, win_none⟩⟩
    · left
      rw [if_neg (fun h => hne (hs'.1 h)), if_pos ⟨by omega, by omega⟩]
      exact ⟨_, rfl, ⟨by simp; omega, by simp; omega, fun x hx => absurd ⟨x, hx⟩ hne, win_none, win_none⟩⟩
theorem won13_run (g : GR O P M) (hrow : ∀ r ∈ M, (r.length : Int) ≤ 9223372036854775807) {inn : List Bool} (hi : inn.length = O.length) (hsg : Sg (gt M) (On inn)) : ∃ r, bailiffref13_won.f O P M inn = some r ∧ Wn O P M inn r := by
  refine recF_of ⟨inn.count true + 1, ?_⟩ fun k r hr => ?_
  · rcases won13_ok g hrow (inn.count true + 1) inn hi hsg with ⟨r, hr, _⟩ | ⟨_, h⟩
    · rw [hr]; rfl
    · omega
  · rcases won13_ok g hrow k inn hi hsg with ⟨r', hr', h⟩ | ⟨hnone, _⟩
    · rw [hr] at hr'; cases hr'; exact h
    · rw [hr] at hnone; cases hnone
theorem all13_run (hN : (O.length : Int) ≤ 1048576) : ∃ b, bailiffref13_Solve.l0 O (List.replicate (O.length : Int).toNat (false : Bool)) 0 = some (.inl b) ∧ b.length = O.length ∧ ∀ x, On b x ↔ 0 ≤ x ∧ x < (O.length : Int) := by
  obtain ⟨r, hr, c, rfl, h1, h2⟩ := iter_meas (body := fun t_ : (List Bool) × Int => bailiffref13_Solve.l0b O t_.1 t_.2)
    (fun s => 0 ≤ s.2 ∧ s.2 ≤ (O.length : Int) ∧ s.1.length = O.length ∧ ∀ x, On s.1 x ↔ 0 ≤ x ∧ x < s.2)
    (fun r => ∃ c, r = .inl c ∧ c.length = O.length ∧ ∀ x, On c x ↔ 0 ≤ x ∧ x < (O.length : Int)) (fun s => (O.length - s.2).toNat)
    (fun ⟨c, i⟩ ⟨a0, a1, a2, a3⟩ => by
      dsimp only at a0 a1 a2 a3 ⊢
      unfold bailiffref13_Solve.l0b
      have hrl : ((List.replicate (O.length : Int).toNat (false : Bool)).length : Int) = O.length := by simp
      by_cases hlt : i < (O.length : Int)
      · right
        rw [if_pos (by rw [hrl]; exact hlt), if_pos (by rw [hrl]; exact ⟨a0, hlt⟩), wrap64 (x := i + 1) (by omega) (by omega)]
        refine ⟨_, rfl, ⟨by dsimp only; omega, by dsimp only; omega, by dsimp only; rw [st_len]; exact a2, fun x => ?_⟩, by dsimp only; omega⟩
        dsimp only
        rw [On.st_ a0 (by omega), a3 x]
        simp only [and_true]
        omega
      · left
        rw [if_neg (by rw [hrl]; exact hlt)]
        refine ⟨_, rfl, c, rfl, a2, fun x => ?_⟩
        rw [a3 x]
        omega) (List.replicate (O.length : Int).toNat false, 0) ⟨Int.le_refl _, by dsimp only; omega, by simp, fun x => ⟨fun h => absurd h On.rep, fun h => by have := h.1; have := h.2; dsimp only at this; omega⟩⟩
  exact ⟨c, hr, h1, h2⟩
theorem list13_run {r : List Bool × List Bool} (hN : (O.length : Int) ≤ 1048576) (h1 : r.1.length = O.length) (h2 : r.2.length = O.length) :
    ∃ w1 w0, bailiffref13_Solve.l1 O r ([] : List Int) ([] : List Int) 0 = some (.inl (w1, w0)) ∧ (∀ x, x ∈ w0 ↔ On r.1 x) ∧ (∀ x, x ∈ w1 ↔ On r.2 x) ∧ (w0.length : Int) ≤ O.length ∧ (w1.length : Int) ≤ O.length := by
  obtain ⟨q, hq, w1, w0, rfl, b1, b2, b3, b4⟩ := iter_meas (body := fun t_ : (List Int) × (List Int) × Int => bailiffref13_Solve.l1b O r t_.1 t_.2.1 t_.2.2)
    (fun s => 0 ≤ s.2.2 ∧ s.2.2 ≤ (O.length : Int) ∧ (∀ x, x ∈ s.2.1 ↔ x < s.2.2 ∧ On r.1 x) ∧ (∀ x, x ∈ s.1 ↔ x < s.2.2 ∧ On r.2 x) ∧ (s.2.1.length : Int) ≤ s.2.2 ∧ (s.1.length : Int) ≤ s.2.2)
    (fun q => ∃ w1 w0, q = .inl (w1, w0) ∧ (∀ x, x ∈ w0 ↔ On r.1 x) ∧ (∀ x, x ∈ w1 ↔ On r.2 x) ∧ (w0.length : Int) ≤ O.length ∧ (w1.length : Int) ≤ O.length) (fun s => (O.length - s.2.2).toNat)
    (fun ⟨w1, w0, i⟩ ⟨a0, a1, a2, a3, a4, a5⟩ => by
      dsimp only at a0 a1 a2 a3 a4 a5 ⊢
      unfold bailiffref13_Solve.l1b
      have hrl : ((List.replicate (O.length : Int).toNat (false : Bool)).length : Int) = O.length := by simp
      by_cases hlt : i < (O.length : Int)
      · right
        have hyes : ∀ {b : List Bool} {w : List Int} (hb : gt b i = true) (hl : b.length = O.length) (h : ∀ x, x ∈ w ↔ x < i ∧ On b x), ∀ x, x ∈ w ++ ([i] : List Int) ↔ x < i + 1 ∧ On b x := fun hb hl h x => by
          rw [List.mem_append, h x]
          simp only [List.mem_singleton]
          constructor
          · rintro (⟨e0, e1⟩ | rfl)
            · exact ⟨by omega, e1⟩
            · exact ⟨by omega, a0, by omega, hb⟩
          · rintro ⟨e0, e1⟩
            by_cases e : x = i
            · exact .inr e
            · exact .inl ⟨by omega, e1⟩
        have hno : ∀ {b : List Bool} {w : List Int} (hb : ¬ gt b i = true) (h : ∀ x, x ∈ w ↔ x < i ∧ On b x), ∀ x, x ∈ w ↔ x < i + 1 ∧ On b x := fun hb h x => by
          rw [h x]
          constructor
          · rintro ⟨e0, e1⟩; exact ⟨by omega, e1⟩
          · rintro ⟨e0, e1⟩
            by_cases e : x = i
            · subst e; exact absurd e1.2.2 hb
            · exact ⟨by omega, e1⟩
        rw [if_pos (by rw [hrl]; exact hlt), if_pos ⟨a0, by omega⟩, wrap64 (x := i + 1) (by omega) (by omega)]
        by_cases hb1 : gt r.1 i = true
        · rw [if_pos hb1, if_pos (by simp; omega), if_pos ⟨a0, by omega⟩]
          by_cases hb2 : gt r.2 i = true
          · rw [if_pos hb2, if_pos (by simp; omega), jn_inl]
            exact ⟨_, rfl, ⟨by dsimp only; omega, by dsimp only; omega, hyes hb1 h1 a2, hyes hb2 h2 a3, by simp; omega, by simp; omega⟩, by dsimp only; omega⟩
          · rw [if_neg hb2, jn_inl]
            exact ⟨_, rfl, ⟨by dsimp only; omega, by dsimp only; omega, hyes hb1 h1 a2, hno hb2 a3, by simp; omega, by dsimp only; omega⟩, by dsimp only; omega⟩
        · rw [if_neg hb1, if_pos ⟨a0, by omega⟩]
          by_cases hb2 : gt r.2 i = true
          · rw [if_pos hb2, if_pos (by simp; omega), jn_inl]
            exact ⟨_, rfl, ⟨by dsimp only; omega, by dsimp only; omega, hno hb1 a2, hyes hb2 h2 a3, by dsimp only; omega, by simp; omega⟩, by dsimp only; omega⟩
          · rw [if_neg hb2, jn_inl]
            exact ⟨_, rfl, ⟨by dsimp only; omega, by dsimp only; omega, hno hb1 a2, hno hb2 a3, by dsimp only; omega, by dsimp only; omega⟩, by dsimp only; omega⟩
      · left
        rw [if_neg (by rw [hrl]; exact hlt)]
        refine ⟨_, rfl, w1, w0, rfl, fun x => ?_, fun x => ?_, by omega, by omega⟩
        · rw [a2 x]; exact ⟨fun h => h.2, fun h => ⟨by have := h.2.1; omega, h⟩⟩
        · rw [a3 x]; exact ⟨fun h => h.2, fun h => ⟨by have := h.2.1; omega, h⟩⟩) (([] : List Int), ([] : List Int), 0) ⟨Int.le_refl _, by dsimp only; omega, fun x => ⟨fun h => (by cases h), fun h => by have := h.2.1; have := h.1; dsimp only at this; omega⟩, fun x => ⟨fun h => (by cases h), fun h => by have := h.2.1; have := h.1; dsimp only at this; omega⟩, by simp, by simp⟩
  exact ⟨w1, w0, hq, b1, b2, b3, b4⟩
/-- Solve's regions: all positions, each won by its player. -/
theorem solve13_run (g : GR O P M) (hrow : ∀ r ∈ M, (r.length : Int) ≤ 9223372036854775807) :
    ∃ w1 w0, bailiffref13_Solve.f O P M = some (w1, w0) ∧ (w0.length : Int) ≤ O.length ∧ (w1.length : Int) ≤ O.length ∧ (∀ x, (0 ≤ x ∧ x < (O.length : Int)) → x ∈ w0 ∨ x ∈ w1) ∧
      (∃ σ, Win (gt O) (gt P) (gt M) (fun x => 0 ≤ x ∧ x < (O.length : Int)) 0 (· ∈ w0) σ) ∧ ∃ σ, Win (gt O) (gt P) (gt M) (fun x => 0 ≤ x ∧ x < (O.length : Int)) 1 (· ∈ w1) σ := by
  have hlo := g.lo
  have hmany := g.many
  obtain ⟨i, hi, hi'⟩ := is_run (O := O) (P := P) (M := M) hrow
  obtain ⟨b, hb, hbl, hb'⟩ := all13_run (O := O) (by omega)
  have hS : On b = (fun x => 0 ≤ x ∧ x < (O.length : Int)) := funext fun x => propext (hb' x)
  have hsg : Sg (gt M) (On b) := fun x hx => by
    have hx' := (hb' x).1 hx
    have hok : Tj.Ok M x := ⟨hx'.1, by omega⟩
    obtain ⟨y, hy⟩ := List.exists_mem_of_ne_nil _ (g.ne x hok)
    refine ⟨y, hy, (hb' y).2 ?_⟩
    obtain ⟨j, hj, rfl⟩ := List.getElem_of_mem hy
    have := (g.rise x hok (j : Int) (by omega) (by omega)).1
    rw [gt_of_get (List.getElem?_eq_getElem hj)] at this
    omega
  obtain ⟨r, hr, w⟩ := won13_run g hrow hbl hsg
  obtain ⟨w1, w0, hl, h0, h1, h2, h3⟩ := list13_run (O := O) (r := r) (by omega) w.l0 w.l1
  refine ⟨w1, w0, ?_, h2, h3, fun x hx => ?_, ?_, ?_⟩
  · unfold bailiffref13_Solve.f
    rw [hi]
    simp only [Option.bind_some]
    rw [if_pos (hi'.2 g), if_pos ⟨by omega, by omega⟩, hb, jn_inl, hr]
    simp only [Option.bind_some]
    rw [hl, jn_inl]
  · rw [h0, h1]
    exact w.part x ((hb' x).2 hx)
  · have : (fun x => x ∈ w0) = On r.1 := funext fun x => propext (h0 x)
    rw [this, ← hS]
    exact w.w0
  · have : (fun x => x ∈ w1) = On r.2 := funext fun x => propext (h1 x)
    rw [this, ← hS]
    exact w.w1
end
end Go.Bw
