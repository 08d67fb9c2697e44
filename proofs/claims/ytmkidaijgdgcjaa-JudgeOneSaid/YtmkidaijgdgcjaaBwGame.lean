/- Parity games: strategies by positions, attractors, the recursion by the top priority, and that no position is both players': no model in sight. Conditions: none. -/
import Derived.Test.YtmkidaijgdgcjaaBwLoop
set_option linter.unusedVariables false
set_option linter.unusedSimpArgs false
set_option linter.unusedSectionVars false
namespace Go.Bw.Pg
open Go

/-- By a step or more, through nodes that are no higher than 'lv'. -/
inductive Pt (E : Int → Int → Prop) (pri : Int → Int) (lv : Int) : Int → Int → Prop
  | one {x y : Int} : E x y → pri y ≤ lv → Pt E pri lv x y
  | cons {x y z : Int} : E x y → pri y ≤ lv → Pt E pri lv y z → Pt E pri lv x z
theorem Pt.mono {E E' : Int → Int → Prop} {pri : Int → Int} {lv : Int} (h : ∀ x y, E x y → E' x y) {x y : Int} (r : Pt E pri lv x y) : Pt E' pri lv x y := by
  induction r with
  | one e p => exact .one (h _ _ e) p
  | cons e p _ ih => exact .cons (h _ _ e) p ih
theorem Pt.hi {E : Int → Int → Prop} {pri : Int → Int} {lv : Int} {x y : Int} (r : Pt E pri lv x y) : pri y ≤ lv := by
  induction r with
  | one e p => exact p
  | cons _ _ _ ih => exact ih
section
variable {own pri : Int → Int} {mvs : Int → List Int}
/-- What a strategy leaves open. -/
def E (own : Int → Int) (mvs : Int → List Int) (S R : Int → Prop) (p : Int) (σ : Int → Int) (x y : Int) : Prop := R x ∧ ((own x = p ∧ y = σ x) ∨ (own x ≠ p ∧ y ∈ mvs x ∧ S y))
/-- A player's moves win all plays from a region of a part S of the game. -/
structure Win (own pri : Int → Int) (mvs : Int → List Int) (S : Int → Prop) (p : Int) (R : Int → Prop) (σ : Int → Int) : Prop where
  sub : ∀ x, R x → S x
  own_ : ∀ x, R x → own x = p → σ x ∈ mvs x ∧ R (σ x)
  oth : ∀ x, R x → own x ≠ p → ∀ y ∈ mvs x, S y → R y
  cyc : ∀ x, R x → pri x % 2 ≠ p → ¬ Pt (E own mvs S R p σ) pri (pri x) x x
/-- A set from which a player comes into T. -/
structure Att (own : Int → Int) (mvs : Int → List Int) (S T A : Int → Prop) (p : Int) (rk : Int → Nat) : Prop where
  sub : ∀ x, A x → S x
  base : ∀ x, T x → A x
  own_ : ∀ x, A x → ¬ T x → own x = p → ∃ y ∈ mvs x, A y ∧ rk y < rk x
  oth : ∀ x, A x → ¬ T x → own x ≠ p → ∀ y ∈ mvs x, S y → A y ∧ rk y < rk x
  clo : ∀ x, S x → ¬ A x → own x = p → ∀ y ∈ mvs x, ¬ A y
  cle : ∀ x, S x → ¬ A x → own x ≠ p → ∃ y ∈ mvs x, S y ∧ ¬ A y
/-- Each position of the part has a move that stays in it. -/
def Sg (mvs : Int → List Int) (S : Int → Prop) : Prop := ∀ x, S x → ∃ y ∈ mvs x, S y
theorem Win.sg {S R : Int → Prop} {p : Int} {σ : Int → Int} (w : Win own pri mvs S p R σ) (h : Sg mvs S) : Sg mvs R := fun x hx => by
  by_cases ho : own x = p
  · exact ⟨σ x, w.own_ x hx ho⟩
  · obtain ⟨y, hy, hs⟩ := h x (w.sub x hx)
    exact ⟨y, hy, w.oth x hx ho y hy hs⟩
theorem Att.sg {S T A : Int → Prop} {p : Int} {rk : Int → Nat} (a : Att own mvs S T A p rk) (h : Sg mvs S) : Sg mvs (fun x => S x ∧ ¬ A x) := fun x ⟨hs, hn⟩ => by
  by_cases ho : own x = p
  · obtain ⟨y, hy, hsy⟩ := h x hs
    exact ⟨y, hy, hsy, a.clo x hs hn ho y hy⟩
  · exact a.cle x hs hn ho
/-- The top priority's player wins all of it, if it wins all but what it can draw to the top. -/
theorem win_all {S T A : Int → Prop} {p top : Int} {rk : Int → Nat} {σ' : Int → Int} (hg : Sg mvs S) (hT : ∀ x, T x ↔ S x ∧ pri x = top) (hle : ∀ x, S x → pri x ≤ top) (hp : top % 2 = p)
    (a : Att own mvs S T A p rk) (w : Win own pri mvs (fun x => S x ∧ ¬ A x) p (fun x => S x ∧ ¬ A x) σ') : ∃ σ, Win own pri mvs S p S σ := by
  have hc : ∃ σ : Int → Int, ∀ x, (T x → σ x ∈ mvs x ∧ S (σ x)) ∧ (A x → ¬ T x → own x = p → σ x ∈ mvs x ∧ A (σ x) ∧ rk (σ x) < rk x) ∧ (S x → ¬ A x → σ x = σ' x) := by
    refine Classical.axiomOfChoice (r := fun (x y : Int) => (T x → y ∈ mvs x ∧ S y) ∧ (A x → ¬ T x → own x = p → y ∈ mvs x ∧ A y ∧ rk y < rk x) ∧ (S x → ¬ A x → y = σ' x)) fun x => ?_
    by_cases ht : T x
    · obtain ⟨y, hy, hs⟩ := hg x ((hT x).1 ht).1
      exact ⟨y, fun _ => ⟨hy, hs⟩, fun _ hn => absurd ht hn, fun _ hn => absurd (a.base x ht) hn⟩
    · by_cases ha : A x
      · by_cases ho : own x = p
        · obtain ⟨y, hy, hs⟩ := a.own_ x ha ht ho
          exact ⟨y, fun h => absurd h ht, fun _ _ _ => ⟨hy, hs⟩, fun _ hn => absurd ha hn⟩
        · exact ⟨0, fun h => absurd h ht, fun _ _ h => absurd h ho, fun _ hn => absurd ha hn⟩
      · exact ⟨σ' x, fun h => absurd h ht, fun h => absurd h ha, fun _ _ => rfl⟩
  obtain ⟨σ, hσ⟩ := hc
  refine ⟨σ, ⟨fun x h => h, fun x hx ho => ?_, fun x hx ho y hy hs => hs, fun x hx hpar hc => ?_⟩⟩
  · by_cases ht : T x
    · exact (hσ x).1 ht
    · by_cases ha : A x
      · obtain ⟨h1, h2, _⟩ := (hσ x).2.1 ha ht ho
        exact ⟨h1, a.sub _ h2⟩
      · rw [(hσ x).2.2 hx ha]
        obtain ⟨h1, h2⟩ := w.own_ x ⟨hx, ha⟩ ho
        exact ⟨h1, h2.1⟩
  · have hlt : pri x < top := by
      have := hle x hx
      by_cases e : pri x = top
      · rw [e] at hpar; exact absurd hp hpar
      · omega
    have key : ∀ {y z : Int}, Pt (E own mvs S S p σ) pri (pri x) y z → pri y ≤ pri x → (A y → A z ∧ rk z < rk y) ∧ (¬ A y → A z ∨ (¬ A z ∧ Pt (E own mvs (fun x => S x ∧ ¬ A x) (fun x => S x ∧ ¬ A x) p σ') pri (pri x) y z)) := by
      have step : ∀ {y z : Int}, E own mvs S S p σ y z → pri y ≤ pri x → (A y → A z ∧ rk z < rk y) ∧ (¬ A y → ¬ A z → E own mvs (fun x => S x ∧ ¬ A x) (fun x => S x ∧ ¬ A x) p σ' y z) := by
        intro y z ⟨hy, he⟩ hpy
        have hnt : ¬ T y := fun h => by have := ((hT y).1 h).2; omega
        constructor
        · intro ha
          rcases he with ⟨ho, rfl⟩ | ⟨ho, hm, hs⟩
          · exact ((hσ y).2.1 ha hnt ho).2
          · exact a.oth y ha hnt ho z hm hs
        · intro ha hz
          refine ⟨⟨hy, ha⟩, ?_⟩
          rcases he with ⟨ho, rfl⟩ | ⟨ho, hm, hs⟩
          · exact .inl ⟨ho, (hσ y).2.2 hy ha⟩
          · exact .inr ⟨ho, hm, hs, hz⟩
      intro y z r
      induction r with
      | @one y z e p1 =>
        intro hpy
        obtain ⟨s1, s2⟩ := step e hpy
        refine ⟨s1, fun ha => ?_⟩
        by_cases hz : A z
        · exact .inl hz
        · exact .inr ⟨hz, .one (s2 ha hz) p1⟩
      | @cons y v z e p1 r ih =>
        intro hpy
        obtain ⟨s1, s2⟩ := step e hpy
        obtain ⟨i1, i2⟩ := ih p1
        refine ⟨fun ha => ?_, fun ha => ?_⟩
        · obtain ⟨b1, b2⟩ := s1 ha
          obtain ⟨c1, c2⟩ := i1 b1
          exact ⟨c1, by omega⟩
        · by_cases hv : A v
          · exact .inl (i1 hv).1
          · rcases i2 hv with h | ⟨h1, h2⟩
            · exact .inl h
            · exact .inr ⟨h1, .cons (s2 ha hv) p1 h2⟩
    obtain ⟨k1, k2⟩ := key hc (Int.le_refl _)
    by_cases ha : A x
    · have := (k1 ha).2; omega
    · rcases k2 ha with h | ⟨_, h⟩
      · exact ha h
      · exact w.cyc x ⟨hx, ha⟩ hpar h
/-- What a player wins of a part that the other one can't draw it out of, it wins in the whole. -/
theorem win_sub {S T B R : Int → Prop} {p q : Int} {rk : Int → Nat} {σ : Int → Int} (hpq : ∀ x, S x → own x ≠ p → own x = q) (b : Att own mvs S T B q rk) (w : Win own pri mvs (fun x => S x ∧ ¬ B x) p R σ) : Win own pri mvs S p R σ := by
  have hin : ∀ x, R x → own x ≠ p → ∀ y ∈ mvs x, S y → S y ∧ ¬ B y := fun x hx ho y hy hs => by
    obtain ⟨h1, h2⟩ := w.sub x hx
    exact ⟨hs, b.clo x h1 h2 (hpq x h1 ho) y hy⟩
  refine ⟨fun x hx => (w.sub x hx).1, w.own_, fun x hx ho y hy hs => w.oth x hx ho y hy (hin x hx ho y hy hs), fun x hx hpar hc => w.cyc x hx hpar (hc.mono ?_)⟩
  rintro u v ⟨hu, he⟩
  refine ⟨hu, he.imp id ?_⟩
  rintro ⟨ho, hm, hs⟩
  exact ⟨ho, hm, hin u hu ho v hm hs⟩
/-- What the other player wins: what it can draw to where it wins, and what it wins of the rest. -/
theorem win_add {S T A L B R : Int → Prop} {p q : Int} {rka rkb : Int → Nat} {σ1 σ2 : Int → Int} (hpq : ∀ x, S x → own x ≠ q → own x = p) (a : Att own mvs S T A p rka) (w1 : Win own pri mvs (fun x => S x ∧ ¬ A x) q L σ1)
    (b : Att own mvs S L B q rkb) (w2 : Win own pri mvs (fun x => S x ∧ ¬ B x) q R σ2) : ∃ σ, Win own pri mvs S q (fun x => B x ∨ R x) σ := by
  have hc : ∃ σ : Int → Int, ∀ x, (L x → σ x = σ1 x) ∧ (B x → ¬ L x → own x = q → σ x ∈ mvs x ∧ B (σ x) ∧ rkb (σ x) < rkb x) ∧ (¬ B x → σ x = σ2 x) := by
    refine Classical.axiomOfChoice (r := fun (x y : Int) => (L x → y = σ1 x) ∧ (B x → ¬ L x → own x = q → y ∈ mvs x ∧ B y ∧ rkb y < rkb x) ∧ (¬ B x → y = σ2 x)) fun x => ?_
    by_cases hl : L x
    · exact ⟨σ1 x, fun _ => rfl, fun _ hn => absurd hl hn, fun hn => absurd (b.base x hl) hn⟩
    · by_cases hb : B x
      · by_cases ho : own x = q
        · obtain ⟨y, hy, hs⟩ := b.own_ x hb hl ho
          exact ⟨y, fun h => absurd h hl, fun _ _ _ => ⟨hy, hs⟩, fun hn => absurd hb hn⟩
        · exact ⟨0, fun h => absurd h hl, fun _ _ h => absurd h ho, fun hn => absurd hb hn⟩
      · exact ⟨σ2 x, fun h => absurd h hl, fun h => absurd h hb, fun _ => rfl⟩
  obtain ⟨σ, hσ⟩ := hc
  have hL : ∀ x, L x → own x ≠ q → ∀ y ∈ mvs x, S y → (S y ∧ ¬ A y) ∧ L y := fun x hx ho y hy hs => by
    obtain ⟨h1, h2⟩ := w1.sub x hx
    have hA : S y ∧ ¬ A y := ⟨hs, a.clo x h1 h2 (hpq x h1 ho) y hy⟩
    exact ⟨hA, w1.oth x hx ho y hy hA⟩
  refine ⟨σ, ⟨fun x hx => hx.elim (b.sub x) (fun h => (w2.sub x h).1), fun x hx ho => ?_, fun x hx ho y hy hs => ?_, fun x hx hpar hc => ?_⟩⟩
  · by_cases hl : L x
    · rw [(hσ x).1 hl]
      obtain ⟨h1, h2⟩ := w1.own_ x hl ho
      exact ⟨h1, .inl (b.base _ h2)⟩
    · by_cases hb : B x
      · obtain ⟨h1, h2, _⟩ := (hσ x).2.1 hb hl ho
        exact ⟨h1, .inl h2⟩
      · have hr : R x := hx.resolve_left hb
        rw [(hσ x).2.2 hb]
        obtain ⟨h1, h2⟩ := w2.own_ x hr ho
        exact ⟨h1, .inr h2⟩
  · by_cases hl : L x
    · exact .inl (b.base y (hL x hl ho y hy hs).2)
    · by_cases hb : B x
      · exact .inl (b.oth x hb hl ho y hy hs).1
      · have hr : R x := hx.resolve_left hb
        by_cases hby : B y
        · exact .inl hby
        · exact .inr (w2.oth x hr ho y hy ⟨hs, hby⟩)
  · have step : ∀ {y z : Int}, E own mvs S (fun x => B x ∨ R x) q σ y z → (L y → L z ∧ E own mvs (fun x => S x ∧ ¬ A x) L q σ1 y z) ∧ (B y → ¬ L y → B z ∧ rkb z < rkb y) ∧ (¬ B y → B z ∨ (¬ B z ∧ E own mvs (fun x => S x ∧ ¬ B x) R q σ2 y z)) := by
      intro y z ⟨hy, he⟩
      refine ⟨fun hl => ?_, fun hb hl => ?_, fun hb => ?_⟩
      · rcases he with ⟨ho, rfl⟩ | ⟨ho, hm, hs⟩
        · have := w1.own_ y hl ho
          rw [(hσ y).1 hl]
          exact ⟨this.2, hl, .inl ⟨ho, rfl⟩⟩
        · obtain ⟨h1, h2⟩ := hL y hl ho z hm hs
          exact ⟨h2, hl, .inr ⟨ho, hm, h1⟩⟩
      · rcases he with ⟨ho, rfl⟩ | ⟨ho, hm, hs⟩
        · exact ((hσ y).2.1 hb hl ho).2
        · exact b.oth y hb hl ho z hm hs
      · have hr : R y := hy.resolve_left hb
        by_cases hbz : B z
        · exact .inl hbz
        · refine .inr ⟨hbz, hr, ?_⟩
          rcases he with ⟨ho, rfl⟩ | ⟨ho, hm, hs⟩
          · exact .inl ⟨ho, (hσ y).2.2 hb⟩
          · exact .inr ⟨ho, hm, hs, hbz⟩
    have key : ∀ {y z : Int}, Pt (E own mvs S (fun x => B x ∨ R x) q σ) pri (pri x) y z → (L y → L z ∧ Pt (E own mvs (fun x => S x ∧ ¬ A x) L q σ1) pri (pri x) y z) ∧ (B y → ¬ L y → B z ∧ (L z ∨ rkb z < rkb y)) ∧ (¬ B y → B z ∨ (¬ B z ∧ Pt (E own mvs (fun x => S x ∧ ¬ B x) R q σ2) pri (pri x) y z)) := by
      intro y z r
      induction r with
      | one e p1 =>
        obtain ⟨s1, s2, s3⟩ := step e
        exact ⟨fun h => ⟨(s1 h).1, .one (s1 h).2 p1⟩, fun h h' => ⟨(s2 h h').1, .inr (s2 h h').2⟩, fun h => (s3 h).imp id fun ⟨u, v⟩ => ⟨u, .one v p1⟩⟩
      | @cons y v z e p1 r ih =>
        obtain ⟨s1, s2, s3⟩ := step e
        obtain ⟨i1, i2, i3⟩ := ih
        have hLB : L v → B z := fun h => b.base z (i1 h).1
        refine ⟨fun h => ?_, fun h h' => ?_, fun h => ?_⟩
        · obtain ⟨u1, u2⟩ := s1 h
          obtain ⟨v1, v2⟩ := i1 u1
          exact ⟨v1, .cons u2 p1 v2⟩
        · obtain ⟨u1, u2⟩ := s2 h h'
          by_cases hl : L v
          · exact ⟨hLB hl, .inl (i1 hl).1⟩
          · obtain ⟨v1, v2⟩ := i2 u1 hl
            exact ⟨v1, v2.imp id fun h => by omega⟩
        · rcases s3 h with u | ⟨u1, u2⟩
          · left
            by_cases hl : L v
            · exact hLB hl
            · exact (i2 u hl).1
          · exact (i3 u1).imp id fun ⟨v1, v2⟩ => ⟨v1, .cons u2 p1 v2⟩
    obtain ⟨k1, k2, k3⟩ := key hc
    by_cases hl : L x
    · exact w1.cyc x hl hpar (k1 hl).2
    · by_cases hb : B x
      · rcases (k2 hb hl).2 with h | h
        · exact hl h
        · omega
      · have hr : R x := hx.resolve_left hb
        rcases k3 hb with h | ⟨_, h⟩
        · exact hb h
        · exact w2.cyc x hr hpar h
/-! ### No position is both players' -/
def it (f : Int → Int) : Nat → Int → Int
  | 0, x => x
  | n + 1, x => it f n (f x)
theorem it_add (f : Int → Int) : ∀ (m n : Nat) (x : Int), it f (m + n) x = it f n (it f m x)
  | 0, n, x => by rw [Nat.zero_add]; rfl
  | m + 1, n, x => by rw [show m + 1 + n = (m + n) + 1 from by omega]; exact it_add f m n (f x)
theorem pigeon {g : Nat → Int} {N : Int} (h : ∀ n, 0 ≤ g n ∧ g n < N) : ∃ i j, i < j ∧ g i = g j := by
  refine Classical.byContradiction fun hn => ?_
  have hne : ∀ i j, i < j → g i ≠ g j := fun i j hij he => hn ⟨i, j, hij, he⟩
  have h0 := h 0
  have hl : ((List.range (N.toNat + 1)).map g).Nodup := by
    unfold List.Nodup
    rw [List.pairwise_map]
    exact List.pairwise_lt_range.imp fun {a b} hab => hne a b hab
  let s := ((List.range (N.toNat + 1)).map g).mergeSort (fun a b => decide (a ≤ b))
  have hp : s.Perm ((List.range (N.toNat + 1)).map g) := List.mergeSort_perm _ _
  have hs : s.Pairwise (fun a b => decide (a ≤ b) = true) := List.pairwise_mergeSort (fun a b c h1 h2 => by simp at *; omega) (fun a b => by simp; omega) _
  have hnd : s.Nodup := hp.nodup_iff.2 hl
  have hlt : s.Pairwise (· < ·) := (hs.and hnd).imp fun {a b} ⟨h1, h2⟩ => by
    have := of_decide_eq_true h1
    omega
  have := rising_len (xs := s) (a := -1) (c := N - 1) hlt (fun x hx => by
    obtain ⟨k, _, rfl⟩ := List.mem_map.1 (hp.mem_iff.1 hx)
    have := h k
    omega) (by omega)
  rw [hp.length_eq, List.length_map, List.length_range] at this
  omega
theorem max_of {g : Nat → Int} : ∀ (k : Nat), 0 < k → ∃ m, m < k ∧ ∀ j, j < k → g j ≤ g m
  | 1, _ => ⟨0, by omega, fun j hj => by rw [show j = 0 from by omega]; exact Int.le_refl _⟩
  | k + 2, _ => by
    obtain ⟨m, hm, h⟩ := max_of (g := g) (k + 1) (by omega)
    by_cases hk : g (k + 1) ≤ g m
    · exact ⟨m, by omega, fun j hj => if e : j = k + 1 then by rw [e]; exact hk else h j (by omega)⟩
    · exact ⟨k + 1, by omega, fun j hj => if e : j = k + 1 then by rw [e]; exact Int.le_refl _ else by have := h j (by omega); omega⟩
/-- A function that stays in a bounded set goes round somewhere: a node of it tops its round. -/
theorem round_top {f pri : Int → Int} {D : Int → Prop} {N : Int} (hD : ∀ x, D x → 0 ≤ x ∧ x < N) (hf : ∀ x, D x → D (f x)) {x : Int} (hx : D x) : ∃ t, D t ∧ Pt (fun u v => D u ∧ v = f u) pri (pri t) t t := by
  have hit : ∀ n {x}, D x → D (it f n x) := by
    intro n
    induction n with
    | zero => exact fun h => h
    | succ n ih => exact fun h => ih (hf _ h)
  obtain ⟨i, j, hij, he⟩ := pigeon (g := fun n => it f n x) (N := N) fun n => hD _ (hit n hx)
  obtain ⟨k, rfl⟩ : ∃ k, j = i + k := ⟨j - i, by omega⟩
  have hk : 0 < k := by omega
  rw [it_add] at he
  have hz : D (it f i x) := hit i hx
  generalize it f i x = z at he hz
  have hper : ∀ m, it f (m + k) z = it f m z := fun m => by rw [Nat.add_comm, it_add, ← he]
  have hmod : ∀ n m, m < n → ∃ m', m' < k ∧ it f m z = it f m' z := by
    intro n
    induction n with
    | zero => intro m hm; omega
    | succ n ih =>
      intro m hm
      by_cases h : m < k
      · exact ⟨m, h, rfl⟩
      · obtain ⟨m', h1, h2⟩ := ih (m - k) (by omega)
        refine ⟨m', h1, ?_⟩
        rw [← h2, ← hper (m - k), show m - k + k = m from by omega]
  obtain ⟨m, hm, hmax⟩ := max_of (g := fun n => pri (it f n z)) k hk
  have htop : ∀ n, pri (it f n (it f m z)) ≤ pri (it f m z) := fun n => by
    rw [← it_add]
    obtain ⟨m', h1, h2⟩ := hmod (m + n + 1) (m + n) (by omega)
    rw [h2]
    exact hmax m' h1
  have hback : it f k (it f m z) = it f m z := by rw [← it_add, hper]
  have ht : D (it f m z) := hit m hz
  generalize it f m z = t at htop hback ht
  have path : ∀ n {u : Int}, D u → (∀ q, pri (it f q u) ≤ pri t) → Pt (fun u v => D u ∧ v = f u) pri (pri t) u (it f (n + 1) u) := by
    intro n
    induction n with
    | zero => intro u hu hq; exact .one ⟨hu, rfl⟩ (hq 1)
    | succ n ih => intro u hu hq; exact .cons ⟨hu, rfl⟩ (hq 1) (ih (hf _ hu) fun q => hq (q + 1))
  refine ⟨t, ht, ?_⟩
  have := path (k - 1) ht htop
  rwa [show k - 1 + 1 = k from by omega, hback] at this
theorem win_disj {S R0 R1 : Int → Prop} {σ0 σ1 : Int → Int} {N : Int} (hS : ∀ x, S x → 0 ≤ x ∧ x < N) (w0 : Win own pri mvs S 0 R0 σ0) (w1 : Win own pri mvs S 1 R1 σ1) (ho : ∀ x, S x → own x = 0 ∨ own x = 1) {x : Int} (h0 : R0 x) (h1 : R1 x) : False := by
  let f : Int → Int := fun x => if own x = 0 then σ0 x else σ1 x
  have hf : ∀ x, R0 x ∧ R1 x → R0 (f x) ∧ R1 (f x) := fun x ⟨a, b⟩ => by
    by_cases h : own x = 0
    · have e : f x = σ0 x := if_pos h
      rw [e]
      obtain ⟨m, r⟩ := w0.own_ x a h
      exact ⟨r, w1.oth x b (by omega) _ m (w0.sub _ r)⟩
    · have e : f x = σ1 x := if_neg h
      rw [e]
      obtain ⟨m, r⟩ := w1.own_ x b ((ho x (w0.sub x a)).resolve_left h)
      exact ⟨w0.oth x a h _ m (w1.sub _ r), r⟩
  obtain ⟨t, ⟨t0, t1⟩, hc⟩ := round_top (f := f) (pri := pri) (D := fun x => R0 x ∧ R1 x) (fun x h => hS x (w0.sub x h.1)) hf ⟨h0, h1⟩
  have c0 : Pt (E own mvs S R0 0 σ0) pri (pri t) t t := hc.mono fun u v ⟨⟨a, b⟩, e⟩ => by
    refine ⟨a, ?_⟩
    by_cases h : own u = 0
    · exact .inl ⟨h, by rw [e]; exact if_pos h⟩
    · obtain ⟨m, r⟩ := w1.own_ u b ((ho u (w0.sub u a)).resolve_left h)
      have e' : v = σ1 u := by rw [e]; exact if_neg h
      exact .inr ⟨h, by rw [e']; exact m, by rw [e']; exact w1.sub _ r⟩
  have c1 : Pt (E own mvs S R1 1 σ1) pri (pri t) t t := hc.mono fun u v ⟨⟨a, b⟩, e⟩ => by
    refine ⟨b, ?_⟩
    by_cases h : own u = 0
    · obtain ⟨m, r⟩ := w0.own_ u a h
      have e' : v = σ0 u := by rw [e]; exact if_pos h
      exact .inr ⟨by omega, by rw [e']; exact m, by rw [e']; exact w0.sub _ r⟩
    · exact .inl ⟨(ho u (w0.sub u a)).resolve_left h, by rw [e]; exact if_neg h⟩
  by_cases hp : pri t % 2 = 0
  · exact w1.cyc t t1 (by omega) c1
  · exact w0.cyc t t0 hp c0
end
end Go.Bw.Pg
