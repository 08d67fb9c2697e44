/- BuildBeside, part 6: walks and plain laws. Conditions: none. -/
import Derived.Test.YtfbjkcnefhgodaaGreatDoorProg
import Derived.Deep.QuietTactic
import Derived.Test.YtfbjkcnefhgodaaGreatDoorRows
import Derived.LaidMore
import Derived.ProofKit
import Derived.OpenShut
import Derived.Stop.Joined
import Derived.Test.YtfbjkcnefhgodaaGreatDoorBwBuildBesideE
set_option linter.unusedVariables false
set_option linter.unusedSimpArgs false
set_option linter.unusedSectionVars false
set_option maxRecDepth 100000
set_option maxHeartbeats 2000000
namespace Go.Bw
open Go Go.RowKit
theorem equal_run {a b : List Int} (hn : a.length = b.length) (ha : (a.length : Int) ≤ 9223372036854775807) : Q57.f a b = some (decide (a = b)) := by
 unfold Q57.f
 rw [if_pos (by omega)]
 obtain ⟨r, hr, hq⟩ := Q38 (body := fun t_ : Int => Q57.l0b a b t_) (fun i => 0 ≤ i ∧ i ≤ (a.length : Int) ∧ ∀ j : Int, 0 ≤ j → j < i → gt a j = gt b j)
  (fun r => (r = .inl () ∧ a = b) ∨ (r = .inr false ∧ a ≠ b)) (fun i => ((a.length : Int) - i).toNat) (fun i ⟨h0, h1, h2⟩ => by
   unfold Q57.l0b
   by_cases hi : i < (a.length : Int)
   ·rw [if_pos hi, if_pos ⟨h0, hi⟩, if_pos ⟨h0, by omega⟩]
    by_cases he : gt a i = gt b i
    ·right
     rw [if_pos he, wrap64 (x := i + 1) (by omega) (by omega)]
     refine ⟨_, rfl, ⟨by omega, by omega, fun j j0 j1 => ?_⟩, by omega⟩
     by_cases hj : j = i
     ·subst hj; exact he
     ·exact h2 j j0 (by omega)
    ·left
     rw [if_neg he]
     exact ⟨_, rfl, .inr ⟨rfl, fun e => he (by rw [e])⟩⟩
   ·left
    rw [if_neg hi]
    exact ⟨_, rfl, .inl ⟨rfl, ext_gt hn fun k hk => h2 k (by omega) (by omega)⟩⟩) 0 ⟨Int.le_refl _, by omega, fun j h0 h1 => by omega⟩
 have hl : Q57.l0 a b 0 = some r := hr
 rcases hq with ⟨rfl, h⟩ | ⟨rfl, h⟩
 ·rw [hl, Q12, decide_eq_true h]
 ·rw [hl, decide_eq_false h]; rfl
end Go.Bw
namespace Go.Bw
open Go Go.RowKit

theorem Q140 {α : Type} {c : Prop} [Decidable c] {x y : Option α} (h1 : c → ∃ r, x = some r) (h2 : ¬ c → ∃ r, y = some r) : ∃ r, (if c then x else y) = some r := by
 split
 ·exact h1 ‹_›
 ·exact h2 ‹_›
theorem Q279 (a : Bs) (ha : (a.length : Int) ≤ 9223372036854775807) (lo hi : Int) : ∃ b, Q52.f a lo hi = some b := by
 unfold Q52.f
 by_cases h1 : (a.length : Int) < 1
 ·simp only [if_pos h1, Q12, if_true]; exact ⟨_, rfl⟩
 by_cases h2 : 8 < (a.length : Int)
 ·simp only [if_neg h1, Q12, if_true, decide_eq_true h2]; exact ⟨_, rfl⟩
 simp only [if_neg h1, Q12, decide_eq_false h2, Bool.false_eq_true, if_false]
 have h0 : (0 : Int) ≤ 0 ∧ 0 < (a.length : Int) := by omega
 refine Q154 (Q140 (fun _ => ⟨_, rfl⟩) fun h => absurd h0 h) fun x => Q154 (Q140 (fun _ => ⟨_, rfl⟩) fun _ => Q140 (fun _ => ⟨_, rfl⟩) fun h => absurd h0 h) fun x => Q140 (fun _ => ⟨_, rfl⟩) fun _ => ?_
 refine jn_true (up_loop (body := fun t_ : Int => Q52.l0b a t_) (N := a.length) (Q := fun _ => True) ha 0 (by decide) fun i hi => ?_)
 unfold Q52.l0b
 by_cases h1 : i < (a.length : Int)
 ·rw [if_pos h1, if_pos ⟨hi, h1⟩]
  simp only [jn_ite, Q12]
  repeat' split
  all_goals first
   | exact .inl ⟨_, rfl, trivial⟩
   | exact .inr ⟨h1, rfl⟩
 ·rw [if_neg h1]; exact .inl ⟨_, rfl, trivial⟩
theorem word_run (a : Bs) : ∃ b, Q103.f a = some b := by
 unfold Q103.f
 refine Q154 (Q140 (fun _ => ⟨_, rfl⟩) fun _ => ⟨_, rfl⟩) fun x => Q154 (Q140 (fun _ => ⟨_, rfl⟩) fun _ => ⟨_, rfl⟩) fun x => Q154 (Q140 (fun _ => ⟨_, rfl⟩) fun _ => ⟨_, rfl⟩) fun x => ⟨_, rfl⟩
theorem name_run2 (a : Bs) (ha : (a.length : Int) ≤ 9223372036854775807) : ∃ b, Q102.f a = some b := by
 unfold Q102.f
 obtain ⟨b, hb⟩ := Q279 a ha 97 122
 rw [hb, Option.bind_some]
 obtain ⟨c, hc⟩ := word_run a
 refine Q154 (Q140 (fun _ => ?_) fun _ => ⟨_, rfl⟩) fun x => ⟨_, rfl⟩
 rw [hc]
 exact ⟨_, rfl⟩
theorem Q306 (a : Bs) (ha : (a.length : Int) ≤ 9223372036854775807) : ∃ b, Q107.f a = some b := by
 unfold Q107.f
 obtain ⟨b, hb⟩ := Q279 a ha 65 90
 rw [hb]
 exact ⟨_, rfl⟩
def Arity (K k : Int) : Prop := (K = 1 ∨ K = 2 ∨ K = 3 ∨ K = 4) ∧ k = 0 ∨ K = 5 ∧ k = 1 ∨ Modal K ∧ k = 1 ∨ Fixy K ∧ k = 1 ∨ Twoy K ∧ k = 2
theorem below_run (K A B At : Int) (a : Bs) (ha : (a.length : Int) ≤ 9223372036854775807) : ∃ b k, Q128.f K A B a At = some (b, k) ∧ 0 ≤ k ∧ k ≤ 2 ∧ (b = true → Arity K k) := by
 obtain ⟨b1, h1⟩ := name_run2 a ha
 obtain ⟨b2, h2⟩ := Q306 a ha
 unfold Q128.f Arity Modal Fixy Twoy
 rw [h1, h2]
 simp only [Option.bind_some]
 by_cases k1 : K = 1
 ·subst k1; exact ⟨bseq a [], 0, by simp [Q12], by omega, by omega, by simp⟩
 by_cases k2 : K = 2
 ·subst k2; exact ⟨bseq a [], 0, by simp [Q12], by omega, by omega, by simp⟩
 by_cases k3 : K = 3
 ·subst k3; exact ⟨b1, 0, by simp [Q12], by omega, by omega, by simp⟩
 by_cases k4 : K = 4
 ·subst k4; exact ⟨b2, 0, by simp [Q12], by omega, by omega, by simp⟩
 by_cases k5 : K = 5
 ·subst k5; exact ⟨bseq a [], 1, by simp [Q12], by omega, by omega, by simp⟩
 by_cases k8 : K = 8
 ·subst k8
  by_cases hx : bseq a [45] = true
  ·exact ⟨true, 1, by simp [hx, Q12], by omega, by omega, by simp⟩
  ·exact ⟨b1, 1, by simp [hx, Q12], by omega, by omega, by simp⟩
 by_cases k9 : K = 9
 ·subst k9
  by_cases hx : bseq a [45] = true
  ·exact ⟨true, 1, by simp [hx, Q12], by omega, by omega, by simp⟩
  ·exact ⟨b1, 1, by simp [hx, Q12], by omega, by omega, by simp⟩
 by_cases k10 : K = 10
 ·subst k10; exact ⟨b2, 1, by simp [Q12], by omega, by omega, by simp⟩
 by_cases k11 : K = 11
 ·subst k11; exact ⟨b2, 1, by simp [Q12], by omega, by omega, by simp⟩
 by_cases k6 : K = 6
 ·subst k6; exact ⟨bseq a [], 2, by simp [Q12], by omega, by omega, by simp⟩
 by_cases k7 : K = 7
 ·subst k7; exact ⟨bseq a [], 2, by simp [Q12], by omega, by omega, by simp⟩
 exact ⟨false, 0, by simp [k1, k2, k3, k4, k5, k6, k7, k8, k9, k10, k11, Q12], by omega, by omega, by simp⟩
theorem Q342 (a : List Int) (ha : (a.length : Int) ≤ 9223372036854775807) : ∃ b, Q135.f a = some b := by
 unfold Q135.f Q70.f
 obtain ⟨b, hb⟩ := jn_int (up_loop (body := fun t_ : Int => Q70.l0b a t_) (N := a.length) (Q := fun _ => True) ha 0 (by decide) fun i hi => by
  unfold Q70.l0b Q145.f
  by_cases h1 : i < (a.length : Int)
  ·rw [if_pos h1, if_pos (by omega)]
   simp only [Option.bind_some]
   split
   ·exact .inl ⟨_, rfl, trivial⟩
   ·exact .inr ⟨h1, rfl⟩
  ·rw [if_neg h1]; exact .inl ⟨_, rfl, trivial⟩)
 have hb' : jn (Q70.l0 a 0) (fun (_ : Unit) => some (-1)) = some b := hb
 rw [hb']
 exact ⟨_, rfl⟩
def Ch (f : List Q0) : Int → List Int → Int → Prop
 | p, [], e => p = e
 | p, s :: r, e => Sb f p s ∧ Ch f (s + 1) r e
theorem Ch.app {f : List Q0} : ∀ {a b : List Int} {p e : Int}, Ch f p (a ++ b) e ↔ ∃ q, Ch f p a q ∧ Ch f q b e
 | [], b, p, e => by simp [Ch]
 | s :: a, b, p, e => by
  simp only [List.cons_append, Ch, Ch.app (a := a)]
  constructor
  ·rintro ⟨h, q, h1, h2⟩; exact ⟨q, ⟨h, h1⟩, h2⟩
  ·rintro ⟨q, ⟨h, h1⟩, h2⟩; exact ⟨h, q, h1, h2⟩
theorem Ch.len {f : List Q0} : ∀ {a : List Int} {p e : Int}, Ch f p a e → (a.length : Int) ≤ e - p
 | [], p, e, h => by simp [Ch] at h; simp [h]
 | s :: a, p, e, h => by
  have := h.1.le
  have := Ch.len h.2
  simp
  omega
theorem Q304 (f : List Q0) (hs : ∀ n ∈ f, (n.Name.length : Int) ≤ 9223372036854775807) : ∃ b, Q50.f f = some b ∧ (b = true → 1 ≤ f.length ∧ f.length ≤ 60 ∧ Sb f 0 ((f.length : Int) - 1)) := by
 unfold Q50.f
 by_cases h1 : (f.length : Int) < 1
 ·simp only [if_pos h1, Q12, if_true]; exact ⟨_, rfl, by simp⟩
 by_cases h2 : 60 < (f.length : Int)
 ·simp only [if_neg h1, Q12, if_true, decide_eq_true h2]; exact ⟨_, rfl, by simp⟩
 simp only [if_neg h1, Q12, decide_eq_false h2, Bool.false_eq_true, if_false]
 obtain ⟨r, hr, hq⟩ := Q38 (body := fun t_ : (List Int) × Int => Q50.l0b f t_.1 t_.2) (fun s => 0 ≤ s.2 ∧ s.2 ≤ (f.length : Int) ∧ Ch f 0 s.1 s.2)
  (fun r => (∃ s, r = .inl s ∧ Ch f 0 s f.length) ∨ r = .inr false) (fun s => ((f.length : Int) - s.2).toNat) (fun ⟨S, i⟩ ⟨i0, i1, hc⟩ => by
   dsimp only at i0 i1 hc ⊢
   have hl := hc.len
   unfold Q50.l0b
   by_cases hi : i < (f.length : Int)
   rotate_left
   ·left
    rw [if_neg hi]
    exact ⟨_, rfl, .inl ⟨S, rfl, by rwa [show (f.length : Int) = i by omega]⟩⟩
   obtain ⟨b, k, hb, k0, k2, hk⟩ := below_run (gt f i).Kind (gt f i).A (gt f i).B (gt f i).At (gt f i).Name (hs _ (Q43 i0 hi))
   rw [if_pos hi, if_pos ⟨i0, hi⟩, hb, Option.bind_some]
   dsimp only
   cases b with
   | false => left; simp only [Bool.false_eq_true, if_false, Q12, if_true]; exact ⟨_, rfl, .inr rfl⟩
   | true =>
   simp only [if_true, Q12]
   by_cases hSk : (S.length : Int) < k
   ·left; simp only [decide_eq_true hSk, if_true]; exact ⟨_, rfl, .inr rfl⟩
   rw [decide_eq_false hSk]
   simp only [Bool.false_eq_true, if_false]
   obtain ⟨c, hcn⟩ := Q342 (([(gt f i).A, (gt f i).B] : List Int).drop k.toNat) (by simp; omega)
   rw [if_pos (by simp; omega), hcn, Option.bind_some]
   cases c with
   | true => left; simp only [if_true, Q12]; exact ⟨_, rfl, .inr rfl⟩
   | false =>
   rw [wrap64 (x := (S.length : Int) - k) (by omega) (by omega), if_neg (by simp), if_pos (by omega), equal_run (by simp; omega) (by simp; omega), Option.bind_some, Q12]
   by_cases he : S.drop ((S.length : Int) - k).toNat = ([(gt f i).A, (gt f i).B] : List Int).take k.toNat
   rotate_left
   ·left; simp only [decide_eq_false he, Bool.not_false, if_true]; exact ⟨_, rfl, .inr rfl⟩
   right
   simp only [decide_eq_true he, Bool.not_true, Bool.false_eq_true, if_false]
   rw [if_pos (by omega), if_pos (by simp; omega), wrap64 (x := i + 1) (by omega) (by omega)]
   refine ⟨_, rfl, ⟨by dsimp only; omega, by dsimp only; omega, ?_⟩, by dsimp only; omega⟩
   dsimp only
   have hSS : S = S.take ((S.length : Int) - k).toNat ++ ([(gt f i).A, (gt f i).B] : List Int).take k.toNat := by rw [← he, List.take_append_drop]
   rw [hSS] at hc
   obtain ⟨q, hc1, hc2⟩ := Ch.app.1 hc
   refine Ch.app.2 ⟨q, hc1, ?_⟩
   have key : Sb f q i → Ch f q [i] (i + 1) := fun h => ⟨h, rfl⟩
   apply key
   rcases hk rfl with ⟨hK, rfl⟩ | ⟨hK, rfl⟩ | ⟨hK, rfl⟩ | ⟨hK, rfl⟩ | ⟨hK, rfl⟩
   ·simp [Ch] at hc2
    subst hc2
    exact .leaf i0 hi (by unfold Leafy; omega)
   ·simp [Ch] at hc2
    exact .not hi hK (by omega) (by rw [show i - 1 = (gt f i).A by omega]; exact hc2.1)
   ·simp [Ch] at hc2
    exact .modal hi hK (by omega) (by rw [show i - 1 = (gt f i).A by omega]; exact hc2.1)
   ·simp [Ch] at hc2
    exact .fix hi hK (by omega) (by rw [show i - 1 = (gt f i).A by omega]; exact hc2.1)
   ·simp [Ch] at hc2
    exact .two hi hK rfl (by omega) hc2.1 (by rw [show i - 1 = (gt f i).B by omega]; exact hc2.2.1)) ([], 0) ⟨by decide, by dsimp only; omega, rfl⟩
 have hr' : Q50.l0 f [] 0 = some r := hr
 rw [hr']
 rcases hq with ⟨s, rfl, hc⟩ | rfl
 ·refine ⟨_, rfl, fun hb => ⟨by omega, by omega, ?_⟩⟩
  match s, hc, of_decide_eq_true hb with
  | [a], hc, _ =>
   have : a + 1 = f.length := hc.2
   rw [show (f.length : Int) - 1 = a by omega]
   exact hc.1
  | [], _, h => simp at h
  | a :: b :: s, _, h => simp at h; omega
 ·exact ⟨_, rfl, by simp⟩
end Go.Bw
namespace Go.Bw
open Go Go.RowKit

def Ev {ρ : Type} (N : Nat → Option ρ) (r : ρ) : Prop := ∃ d, ∀ k, N k = some r ∨ (k < d ∧ N k = none)
theorem Ev.recF {ρ : Type} {N : Nat → Option ρ} {r : ρ} (h : Ev N r) : Bw.recF N = some r := by
 obtain ⟨d, h⟩ := h
 have hd : (N d).isSome = true := by rcases h d with e | e <;> first | (simp [e]; done) | omega
 obtain ⟨r', h1, h2⟩ := recF_of (n := N) (Q := fun x => x = r) ⟨d, hd⟩ (fun k x hx => by rcases h k with h | h <;> rw [hx] at h <;> simp_all)
 rw [h1, h2]
theorem Ev.const {ρ : Type} (r : ρ) : Ev (fun _ => some r) r := ⟨0, fun _ => .inl rfl⟩
theorem Ev.succ {ρ : Type} {N M : Nat → Option ρ} {r : ρ} (h0 : N 0 = none) (h : ∀ k, N (k + 1) = M k) (e : Ev M r) : Ev N r := by
 obtain ⟨d, e⟩ := e
 refine ⟨d + 1, fun k => ?_⟩
 cases k with
 | zero => exact .inr ⟨by omega, h0⟩
 | succ k =>
  rw [h]
  rcases e k with e | e
  ·exact .inl e
  ·exact .inr ⟨by omega, e.2⟩
theorem Ev.bind {α ρ : Type} {M : Nat → Option α} {F : Nat → α → Option ρ} {a : α} {r : ρ} (e : Ev M a) (g : Ev (fun k => F k a) r) : Ev (fun k => (M k).bind (F k)) r := by
 obtain ⟨d, e⟩ := e
 obtain ⟨d', g⟩ := g
 refine ⟨d + d', fun k => ?_⟩
 rcases e k with e | e
 ·dsimp only
  rw [e, Option.bind_some]
  rcases g k with g | g
  ·exact .inl g
  ·exact .inr ⟨by omega, g.2⟩
 ·exact .inr ⟨by omega, by dsimp only; rw [e.2]; rfl⟩
theorem Bd.wide {f : List Q0} {to : List Int} {sc : List (Int × Bool)} {l n : Int} (b : Bd f to sc l n) : ∀ {sc' : List (Int × Bool)}, (∀ p ∈ sc, p ∈ sc') → Bd f to sc' l n := by
 induction b with
 | var h0 h1 hk hs => exact fun h => .var h0 h1 hk (h _ hs)
 | leaf h0 h1 hk h4 => exact fun h => .leaf h0 h1 hk h4
 | not h1 hk ha s ih => exact fun h => .not h1 hk ha (ih fun p hp => by
  obtain ⟨q, hq, rfl⟩ := List.mem_map.1 hp
  exact List.mem_map.2 ⟨q, h q hq, rfl⟩)
 | modal h1 hk ha s ih => exact fun h => .modal h1 hk ha (ih h)
 | fix h1 hk ha s ih => exact fun h => .fix h1 hk ha (ih fun p hp => by
  rcases List.mem_cons.1 hp with rfl | hp
  ·exact List.mem_cons_self
  ·exact List.mem_cons_of_mem _ (h p hp))
 | two h1 hk ha hb s t ih1 ih2 => exact fun h => .two h1 hk ha hb (ih1 h) (ih2 h)
theorem Bd.congr {f : List Q0} {to to' : List Int} {sc : List (Int × Bool)} {l n : Int} (b : Bd f to sc l n) : (∀ v, l ≤ v → v ≤ n → gt to' v = gt to v) → Bd f to' sc l n := by
 induction b with
 | var h0 h1 hk hs => exact fun h => .var h0 h1 hk (by rw [h _ (Int.le_refl _) (Int.le_refl _)]; exact hs)
 | leaf h0 h1 hk h4 => exact fun h => .leaf h0 h1 hk h4
 | not h1 hk ha s ih => exact fun h => .not h1 hk ha (ih fun v h0 h1 => h v h0 (by omega))
 | modal h1 hk ha s ih => exact fun h => .modal h1 hk ha (ih fun v h0 h1 => h v h0 (by omega))
 | fix h1 hk ha s ih => exact fun h => .fix h1 hk ha (ih fun v h0 h1 => h v h0 (by omega))
 | two h1 hk ha hb s t ih1 ih2 =>
  have := s.le
  have := t.le
  exact fun h => .two h1 hk ha hb (ih1 fun v h0 h1 => h v h0 (by omega)) (ih2 fun v h0 h1 => h v (by omega) (by omega))
theorem find_run (f : List Q0) (S : List Q14) (nots : Int) (to : List Int) (odd : List Bool) (dep : List Int) (a : Bs) (hS : ∀ p ∈ S, 0 ≤ p.node ∧ p.node < (f.length : Int)) (hl : (S.length : Int) ≤ 1000) :
 ∃ r, Q55.f f S nots to odd dep a = some r ∧ (r = (false, 0, 0) ∨ ∃ p ∈ S, r = (true, p.node, p.nots)) := by
 unfold Q55.f
 obtain ⟨r, hr, hq⟩ := Q38 (body := fun t_ : Int => Q55.l0b f S a t_) (fun i => -1 ≤ i ∧ i < (S.length : Int))
  (fun r => r = .inl () ∨ ∃ p ∈ S, r = .inr (true, p.node, p.nots)) (fun i => (i + 1).toNat) (fun i ⟨h0, h1⟩ => by
   unfold Q55.l0b
   by_cases hi : 0 ≤ i
   ·have hm := Q43 hi h1
    rw [if_pos hi, if_pos ⟨hi, h1⟩, if_pos (hS _ hm)]
    split
    ·exact .inl ⟨_, rfl, .inr ⟨_, hm, rfl⟩⟩
    ·rw [wrap64 (x := i - 1) (by omega) (by omega)]
     exact .inr ⟨_, rfl, by omega, by omega⟩
   ·rw [if_neg hi]; exact .inl ⟨_, rfl, .inl rfl⟩) ((S.length : Int) - 1) (by omega)
 have hr' : Q55.l0 f S a ((S.length : Int) - 1) = some r := hr
 rw [wrap64 (by omega) (by omega), hr']
 rcases hq with rfl | ⟨p, hp, rfl⟩
 ·exact ⟨_, rfl, .inl rfl⟩
 ·exact ⟨_, rfl, .inr ⟨p, hp, rfl⟩⟩
def scp (nots : Int) (p : Q14) : Int × Bool := (p.node, decide ((nots - p.nots) % 2 = 0))
theorem scp_flip (nots : Int) (S : List Q14) : S.map (scp (nots + 1)) = (S.map (scp nots)).map fun p => (p.1, !p.2) := by
 rw [List.map_map]
 apply List.map_congr_left
 intro p _
 simp only [scp, Function.comp]
 congr 1
 rw [Bool.eq_iff_iff]
 simp
 omega
structure Wk (f : List Q0) (l n nots : Int) (S : List Q14) (to : List Int) (odd : List Bool) (dep : List Int) (to' : List Int) (odd' : List Bool) (dep' : List Int) : Prop where
 l1 : to'.length = f.length
 l2 : odd'.length = f.length
 l3 : dep'.length = f.length
 fr : ∀ m, 0 ≤ m → m < l ∨ n < m → gt to' m = gt to m ∧ gt odd' m = gt odd m
 bd : (∀ m, l ≤ m → m ≤ n → (gt f m).Kind = 4 → 0 ≤ gt to' m ∧ gt odd' m = false) → (∀ m, l ≤ m → m ≤ n → gt to m = -1) → Bd f to' (S.map (scp nots)) l n
theorem walk_run {f : List Q0} (hf : f.length ≤ 60) {l n : Int} (s : Sb f l n) : ∀ (S : List Q14) (nots : Int) (to : List Int) (odd : List Bool) (dep : List Int), to.length = f.length → odd.length = f.length → dep.length = f.length →
 (∀ p ∈ S, 0 ≤ p.node ∧ p.node < (f.length : Int) ∧ 0 ≤ p.nots ∧ p.nots ≤ nots) → 0 ≤ nots → nots + (n - l) ≤ 100 → (S.length : Int) + (n - l) ≤ 100 →
 ∃ to' odd' dep', Ev (fun k => Q23.n k f S nots to odd dep n) (odd', to', S, dep', nots) ∧ Wk f l n nots S to odd dep to' odd' dep' := by
 induction s with
 | @leaf n h0 h1 hk =>
  intro S nots to odd dep e1 e2 e3 hS hn hn2 hl
  by_cases k4 : (gt f n).Kind = 4
  ·obtain ⟨r, hr, hq⟩ := find_run f S nots to odd dep (gt f n).Name (fun p hp => ⟨(hS p hp).1, (hS p hp).2.1⟩) (by omega)
   rcases hq with rfl | ⟨p, hp, rfl⟩
   ·refine ⟨to, odd, dep, Ev.succ rfl (fun k => rfl) ?_, e1, e2, e3, fun _ _ _ => ⟨rfl, rfl⟩, fun ha hb => ?_⟩
    ·simp only [Q23.n, Q23.g, if_pos (And.intro h0 h1), if_pos k4, hr, Option.bind_some, Bool.false_eq_true, if_false]
     exact Ev.const _
    ·have := (ha n (by omega) (by omega) k4).1
     have := hb n (by omega) (by omega)
     omega
   ·have hp' := hS p hp
    refine ⟨st to n p.node, st odd n (!(decide (Int.tmod (nots - p.nots) 2 = 0))), dep, Ev.succ rfl (fun k => rfl) ?_, by rw [Q90, e1], by rw [Q90, e2], e3, fun m hm h => ?_, fun ha hb => ?_⟩
    ·simp only [Q23.n, Q23.g, if_pos (And.intro h0 h1), if_pos k4, hr, Option.bind_some, if_true, e1, e2]
     rw [wrap64 (x := nots - p.nots) (by omega) (by omega)]
     exact Ev.const _
    ·rw [Q122 h0 (by omega) hm, Q122 h0 (by omega) hm, if_neg (by omega), if_neg (by omega)]
     exact ⟨rfl, rfl⟩
    ·have := (ha n (by omega) (by omega) k4).2
     rw [Q122 h0 (by omega) h0, if_pos rfl] at this
     refine .var h0 h1 k4 ?_
     rw [Q122 h0 (by omega) h0, if_pos rfl]
     refine List.mem_map.2 ⟨p, hp, ?_⟩
     simp only [scp]
     congr 1
     simp at this
     rw [Int.tmod_eq_emod_of_nonneg (by omega)] at this
     simpa using this
  ·refine ⟨to, odd, dep, Ev.succ rfl (fun k => rfl) ?_, e1, e2, e3, fun _ _ _ => ⟨rfl, rfl⟩, fun ha hb => .leaf h0 h1 hk k4⟩
   have : (gt f n).Kind ≠ 5 ∧ (gt f n).Kind ≠ 6 ∧ (gt f n).Kind ≠ 7 ∧ (gt f n).Kind ≠ 8 ∧ (gt f n).Kind ≠ 9 ∧ (gt f n).Kind ≠ 10 ∧ (gt f n).Kind ≠ 11 := by unfold Leafy at hk; omega
   simp only [Q23.n, Q23.g, if_pos (And.intro h0 h1), if_neg k4, if_neg this.1, if_neg this.2.1, if_neg this.2.2.1, if_neg this.2.2.2.1, if_neg this.2.2.2.2.1, if_neg this.2.2.2.2.2.1, if_neg this.2.2.2.2.2.2, decide_eq_false this.2.2.1, decide_eq_false this.2.2.2.2.1, decide_eq_false this.2.2.2.2.2.2, Q12, Bool.false_eq_true, if_false]
   exact Ev.const _
 | @not l n h1 hk ha s ih =>
  intro S nots to odd dep e1 e2 e3 hS hn hn2 hl
  have := s.le
  obtain ⟨to', odd', dep', he, w⟩ := ih S (nots + 1) to odd dep e1 e2 e3 (fun p hp => by have := hS p hp; omega) (by omega) (by omega) (by omega)
  refine ⟨to', odd', st dep' n (gt dep' (n - 1)), Ev.succ rfl (fun k => rfl) ?_, w.l1, w.l2, by rw [Q90, w.l3], fun m hm h => w.fr m hm (by omega), fun h4 hto => .not h1 hk ha ?_⟩
  ·simp only [Q23.n, Q23.g, if_pos (And.intro (show 0 ≤ n by omega) h1), hk, ha, wrap64 (x := nots + 1) (by omega) (by omega), show ¬ ((5 : Int) = 4) by decide, if_false, if_true]
   refine Ev.bind he ?_
   dsimp only
   rw [if_pos (by omega), if_pos (by omega), wrap64 (x := nots + 1 - 1) (by omega) (by omega), show nots + 1 - 1 = nots by omega]
   exact Ev.const _
  ·rw [← scp_flip]
   exact w.bd (fun m a b c => h4 m a (by omega) c) (fun m a b => hto m a (by omega))
 | @modal l n h1 hk ha s ih =>
  intro S nots to odd dep e1 e2 e3 hS hn hn2 hl
  have := s.le
  obtain ⟨to', odd', dep', he, w⟩ := ih S nots to odd dep e1 e2 e3 hS (by omega) (by omega) (by omega)
  refine ⟨to', odd', st dep' n (gt dep' (n - 1)), Ev.succ rfl (fun k => rfl) ?_, w.l1, w.l2, by rw [Q90, w.l3], fun m hm h => w.fr m hm (by omega), fun h4 hto => .modal h1 hk ha ?_⟩
  ·have : (if (gt f n).Kind = 8 then (some (.inl (decide ((gt f n).Kind = 8))) : Option (Bool ⊕ ((List Bool) × (List Int) × (List Q14) × (List Int) × Int))) else some (.inl (decide ((gt f n).Kind = 9)))) = some (.inl true) := by
    rcases hk with hk | hk <;> simp [hk]
   have h45 : (gt f n).Kind ≠ 4 ∧ (gt f n).Kind ≠ 5 := by unfold Modal at hk; omega
   simp only [Q23.n, Q23.g, if_pos (And.intro (show 0 ≤ n by omega) h1), this, ha, if_neg h45.1, if_neg h45.2, Q12, if_true]
   refine Ev.bind he ?_
   dsimp only
   rw [if_pos (by omega), if_pos (by omega)]
   exact Ev.const _
  ·exact w.bd (fun m a b c => h4 m a (by omega) c) (fun m a b => hto m a (by omega))
 | @fix l n h1 hk ha s ih =>
  intro S nots to odd dep e1 e2 e3 hS hn hn2 hl
  have := s.le
  obtain ⟨to', odd', dep', he, w⟩ := ih (S ++ [⟨n, nots⟩]) nots to odd dep e1 e2 e3 (fun p hp => by
   rcases List.mem_append.1 hp with hp | hp
   ·exact hS p hp
   ·rw [List.mem_singleton.1 hp]; dsimp only; omega) (by omega) (by omega) (by simp; omega)
  refine ⟨to', odd', st dep' n (IntKind.i64.wrap (gt dep' (n - 1) + 1)), Ev.succ rfl (fun k => rfl) ?_, w.l1, w.l2, by rw [Q90, w.l3], fun m hm h => w.fr m hm (by omega), fun h4 hto => .fix h1 hk ha ?_⟩
  ·have t1 : (if (gt f n).Kind = 10 then (some (.inl (decide ((gt f n).Kind = 10))) : Option (Bool ⊕ ((List Bool) × (List Int) × (List Q14) × (List Int) × Int))) else some (.inl (decide ((gt f n).Kind = 11)))) = some (.inl true) := by
    rcases hk with hk | hk <;> simp [hk]
   have h45 : (gt f n).Kind ≠ 4 ∧ (gt f n).Kind ≠ 5 ∧ (gt f n).Kind ≠ 8 ∧ (gt f n).Kind ≠ 9 ∧ (gt f n).Kind ≠ 6 ∧ (gt f n).Kind ≠ 7 := by unfold Fixy at hk; omega
   simp only [Q23.n, Q23.g, if_pos (And.intro (show 0 ≤ n by omega) h1), t1, ha, if_neg h45.1, if_neg h45.2.1, if_neg h45.2.2.1, if_neg h45.2.2.2.2.1, decide_eq_false h45.2.2.2.1, decide_eq_false h45.2.2.2.2.2, Bool.false_eq_true, if_false, Q12, if_true]
   have hsz : (S.length + [(⟨n, nots⟩ : Q14)].length) * 16 ≤ 140737488355328 := by simp; omega
   simp only [if_pos hsz]
   refine Ev.bind he ?_
   dsimp only
   rw [wrap64 (x := ((S ++ [(⟨n, nots⟩ : Q14)]).length : Int) - 1) (by rw [List.length_append]; omega) (by rw [List.length_append]; simp; omega), if_pos (by rw [List.length_append]; simp; omega), if_pos (by omega), if_pos (by omega)]
   rw [show (((S ++ [(⟨n, nots⟩ : Q14)]).length : Int) - 1).toNat = S.length by simp, List.take_left' rfl]
   exact Ev.const _
  ·refine (w.bd (fun m a b c => h4 m a (by omega) c) (fun m a b => hto m a (by omega))).wide fun p hp => ?_
   rw [List.map_append] at hp
   rcases List.mem_append.1 hp with hp | hp
   ·exact List.mem_cons_of_mem _ hp
   ·simp [scp] at hp
    rw [hp]; exact List.mem_cons_self
 | @two l m n h1 hk ha hb s t ih1 ih2 =>
  intro S nots to odd dep e1 e2 e3 hS hn hn2 hl
  have := s.le
  have := t.le
  obtain ⟨to1, odd1, dep1, he1, w1⟩ := ih1 S nots to odd dep e1 e2 e3 hS (by omega) (by omega) (by omega)
  obtain ⟨to2, odd2, dep2, he2, w2⟩ := ih2 S nots to1 odd1 dep1 w1.l1 w1.l2 w1.l3 hS (by omega) (by omega) (by omega)
  refine ⟨to2, odd2, st dep2 n (if gt dep2 m < gt dep2 (n - 1) then gt dep2 (n - 1) else gt dep2 m), Ev.succ rfl (fun k => rfl) ?_, w2.l1, w2.l2, by rw [Q90, w2.l3], fun q hq h => ?_, fun h4 hto => .two h1 hk ha hb ?_ ?_⟩
  ·have t1 : (if (gt f n).Kind = 6 then (some (.inl (decide ((gt f n).Kind = 6))) : Option (Bool ⊕ ((List Bool) × (List Int) × (List Q14) × (List Int) × Int))) else some (.inl (decide ((gt f n).Kind = 7)))) = some (.inl true) := by
    rcases hk with hk | hk <;> simp [hk]
   have h45 : (gt f n).Kind ≠ 4 ∧ (gt f n).Kind ≠ 5 ∧ (gt f n).Kind ≠ 8 ∧ (gt f n).Kind ≠ 9 := by unfold Twoy at hk; omega
   simp only [Q23.n, Q23.g, if_pos (And.intro (show 0 ≤ n by omega) h1), t1, ha, hb, if_neg h45.1, if_neg h45.2.1, if_neg h45.2.2.1, decide_eq_false h45.2.2.2, Bool.false_eq_true, if_false, Q12, if_true]
   refine Ev.bind he1 (Ev.bind he2 ?_)
   dsimp only
   rw [if_pos (by omega), if_pos (by omega), if_pos (by omega)]
   exact Ev.const _
  ·have a := w1.fr q hq (by omega)
   have b := w2.fr q hq (by omega)
   exact ⟨b.1.trans a.1, b.2.trans a.2⟩
  ·refine (w1.bd (fun q a b c => ?_) (fun q a b => hto q a (by omega))).congr fun v a b => (w2.fr v (by omega) (by omega)).1
   have := w2.fr q (by omega) (by omega)
   rw [← this.1, ← this.2]
   exact h4 q a (by omega) c
  ·refine w2.bd (fun q a b c => h4 q (by omega) (by omega) c) (fun q a b => ?_)
   rw [(w1.fr q (by omega) (by omega)).1]
   exact hto q (by omega) (by omega)
end Go.Bw
namespace Go.Bw
open Go Go.RowKit

theorem Q340 {f : List Q0} (h1 : 1 ≤ f.length) (hf : f.length ≤ 60) (s : Sb f 0 ((f.length : Int) - 1)) :
 ∃ to odd dep, Q49.f f = some ([], to, odd, dep, 0) ∧ to.length = f.length ∧ odd.length = f.length ∧ dep.length = f.length ∧
  ((∀ m, 0 ≤ m → m < (f.length : Int) → (gt f m).Kind = 4 → 0 ≤ gt to m ∧ gt odd m = false) → Bd f to [] 0 ((f.length : Int) - 1)) := by
 obtain ⟨r, hr, t, rfl, hl, ht⟩ := Q38 (body := fun t_ : (List Int) × Int => Q49.l0b f t_.1 t_.2) (fun s => s.1.length = f.length ∧ 0 ≤ s.2 ∧ s.2 ≤ (f.length : Int) ∧ ∀ m, 0 ≤ m → m < s.2 → gt s.1 m = -1)
  (fun r => ∃ t, r = .inl t ∧ t.length = f.length ∧ ∀ m, 0 ≤ m → m < (f.length : Int) → gt t m = -1) (fun s => ((f.length : Int) - s.2).toNat) (fun ⟨t, i⟩ ⟨a0, a1, a2, a3⟩ => by
   dsimp only at a0 a1 a2 a3 ⊢
   unfold Q49.l0b
   have hlen : ((List.replicate (f.length : Int).toNat (0 : Int)).length : Int) = f.length := by simp
   rw [hlen]
   by_cases hi : i < (f.length : Int)
   ·right
    rw [if_pos hi, if_pos ⟨a1, hi⟩, wrap64 (x := i + 1) (by omega) (by omega)]
    refine ⟨_, rfl, ⟨by dsimp only; rw [Q90, a0], by dsimp only; omega, by dsimp only; omega, fun m m0 m1 => ?_⟩, by dsimp only; omega⟩
    dsimp only at m1 ⊢
    rw [Q122 a1 (by omega) m0]
    split
    ·rfl
    ·exact a3 m m0 (by omega)
   ·left
    rw [if_neg hi]
    exact ⟨_, rfl, t, rfl, a0, fun m m0 m1 => a3 m m0 (by omega)⟩) (List.replicate (f.length : Int).toNat 0, 0) ⟨by simp, Int.le_refl 0, by dsimp only; omega, fun m m0 m1 => by dsimp only at m1; omega⟩
 have hr' : Q49.l0 f (List.replicate (f.length : Int).toNat 0) 0 = some (.inl t) := hr
 obtain ⟨to, odd, dep, he, w⟩ := walk_run hf s [] 0 t (List.replicate (f.length : Int).toNat false) (List.replicate (f.length : Int).toNat 0) hl (by simp) (by simp) (fun p hp => by cases hp) (by decide) (by omega) (by simp; omega)
 refine ⟨to, odd, dep, ?_, w.l1, w.l2, w.l3, fun h => w.bd (fun m a b c => h m a (by omega) c) fun m a b => ht m a (by omega)⟩
 unfold Q49.f
 rw [if_pos (by omega), if_pos (by omega), hr', Q12, wrap64 (by omega) (by omega)]
 unfold Q23.f
 rw [he.recF]
 rfl
theorem fix_run (K A B At : Int) (a : Bs) : Q96.f K A B a At = some (decide (K = 10 ∨ K = 11)) := by
 unfold Q96.f
 by_cases h : K = 10 <;> simp [h, Q12]
structure Bound (f : List Q0) (to : List Int) : Prop where
 n0 : 1 ≤ f.length
 n1 : f.length ≤ 60
 bi : Q138.f f = some to
 len : to.length = f.length
 bd : Bd f to [] 0 ((f.length : Int) - 1)
theorem check_run (f : List Q0) (hs : ∀ n ∈ f, (n.Name.length : Int) ≤ 9223372036854775807) : ∃ e i, Q59.f f = some (e, i) ∧ (e = 0 → ∃ to, Bound f to) := by
 obtain ⟨b, hb, hr⟩ := Q304 f hs
 unfold Q59.f
 rw [hb, Option.bind_some]
 cases b with
 | false => exact ⟨1, 0, by simp, by simp⟩
 | true =>
 obtain ⟨n0, n1, sb⟩ := hr rfl
 obtain ⟨to, odd, dep, hw, l1, l2, l3, hbd⟩ := Q340 n0 n1 sb
 simp only [if_true, hw, Option.bind_some]
 have hl0 : ((List.replicate (f.length : Int).toNat (0 : Int)).length : Int) = f.length := by simp
 have hlf : ((List.replicate (f.length : Int).toNat false).length : Int) = f.length := by simp
 obtain ⟨r, hr, hq⟩ := Q38 (body := fun t_ : (List (Bs × Bool)) × Int => Q59.l0b f ([], to, odd, dep, 0) t_.1 t_.2) (fun s => 0 ≤ s.2 ∧ s.2 ≤ (f.length : Int) ∧ ∀ m, 0 ≤ m → m < s.2 → (gt f m).Kind = 4 → 0 ≤ gt to m ∧ gt odd m = false)
  (fun r => (∃ x, r = .inl x ∧ ∀ m, 0 ≤ m → m < (f.length : Int) → (gt f m).Kind = 4 → 0 ≤ gt to m ∧ gt odd m = false) ∨ ∃ e i, r = .inr (e, i) ∧ e ≠ 0) (fun s => ((f.length : Int) - s.2).toNat) (fun ⟨x, i⟩ ⟨a1, a2, a3⟩ => by
   dsimp only at a1 a2 a3 ⊢
   unfold Q59.l0b
   rw [hl0, hlf]
   by_cases hi : i < (f.length : Int)
   ·rw [if_pos hi, if_pos ⟨a1, hi⟩]
    simp only [fix_run, Option.bind_some, if_pos (And.intro a1 hi)]
    by_cases k4 : (gt f i).Kind = 4
    ·have k10 : ¬ ((gt f i).Kind = 10 ∨ (gt f i).Kind = 11) := by omega
     simp only [if_pos k4, Q12, decide_eq_false k10, Bool.false_eq_true, if_false]
     by_cases t0 : gt to i < 0
     ·left; simp only [decide_eq_true t0, if_true, jn_up]; exact ⟨_, rfl, .inr ⟨11, i, rfl, by decide⟩⟩
     simp only [decide_eq_false t0, Bool.false_eq_true, if_false]
     cases ho : gt odd i with
     | true => left; simp only [if_true, jn_up]; exact ⟨_, rfl, .inr ⟨12, i, rfl, by decide⟩⟩
     | false =>
      right
      simp only [Bool.false_eq_true, if_false, Q12]
      rw [wrap64 (x := i + 1) (by omega) (by omega)]
      refine ⟨_, rfl, ⟨by dsimp only; omega, by dsimp only; omega, fun m m0 m1 mk => ?_⟩, by dsimp only; omega⟩
      dsimp only at m1
      by_cases hm : m = i
      ·rw [hm]; exact ⟨by omega, ho⟩
      ·exact a3 m m0 (by omega) mk
    ·simp only [if_neg k4, Q12, Bool.false_eq_true, if_false]
     have nxt : ∀ x' : List (Bs × Bool), ∃ s' : (List (Bs × Bool)) × Int, (nx (x', IntKind.i64.wrap (i + 1)) : Option (((List (Bs × Bool)) × Int) ⊕ (((List (Bs × Bool))) ⊕ (Int × Int)))) = some (.inl s') ∧ (0 ≤ s'.2 ∧ s'.2 ≤ (f.length : Int) ∧ ∀ m, 0 ≤ m → m < s'.2 → (gt f m).Kind = 4 → 0 ≤ gt to m ∧ gt odd m = false) ∧ ((f.length : Int) - s'.2).toNat < ((f.length : Int) - i).toNat := fun x' => by
      rw [wrap64 (x := i + 1) (by omega) (by omega)]
      refine ⟨_, rfl, ⟨by dsimp only; omega, by dsimp only; omega, fun m m0 m1 mk => ?_⟩, by dsimp only; omega⟩
      dsimp only at m1
      by_cases hm : m = i
      ·rw [hm] at mk; exact absurd mk k4
      ·exact a3 m m0 (by omega) mk
     by_cases k10 : (gt f i).Kind = 10 ∨ (gt f i).Kind = 11
     ·simp only [decide_eq_true k10, if_true, Q12]
      cases hse : (mget x (gt f i).Name).getD false with
      | true => left; simp only [if_true, jn_up]; exact ⟨_, rfl, .inr ⟨9, i, rfl, by decide⟩⟩
      | false =>
       simp only [Bool.false_eq_true, if_false]
       by_cases h4 : 4 < gt dep i
       ·left; simp only [decide_eq_true h4, if_true, jn_up]; exact ⟨_, rfl, .inr ⟨13, i, rfl, by decide⟩⟩
       ·right
        simp only [decide_eq_false h4, Bool.false_eq_true, if_false, Q12]
        exact nxt _
     ·right
      simp only [decide_eq_false k10, Bool.false_eq_true, if_false, Q12]
      exact nxt _
   ·left
    rw [if_neg hi]
    exact ⟨_, rfl, .inl ⟨x, rfl, fun m m0 m1 => a3 m m0 (by omega)⟩⟩) ([], 0) ⟨by decide, by dsimp only; omega, fun m m0 m1 => by dsimp only at m1; omega⟩
 have hr' : Q59.l0 f ([], to, odd, dep, 0) [] 0 = some r := hr
 rw [hr']
 rcases hq with ⟨x, rfl, hg⟩ | ⟨e, i, rfl, he⟩
 ·refine ⟨0, 0, rfl, fun _ => ⟨to, n0, n1, ?_, l1, hbd hg⟩⟩
  unfold Q138.f
  rw [hb, Option.bind_some, if_pos rfl, hw]
  rfl
 ·exact ⟨e, i, rfl, fun h => absurd h he⟩
end Go.Bw
namespace Go.Bw
open Go Go.RowKit

def wide (x : Q0) : Q0 := if x.Kind = 12 then { x with Kind := 3 } else x
theorem Q168 (x : Q0) : (wide x).A = x.A ∧ (wide x).B = x.B ∧ (wide x).Name = x.Name := by
 unfold wide
 split <;> exact ⟨rfl, rfl, rfl⟩
theorem Q152 {x : Q0} {k : Int} (h : k ≠ 3) (hk : (wide x).Kind = k) : x.Kind = k := by
 unfold wide at hk
 split at hk
 ·exact absurd hk.symm h
 ·exact hk
theorem Bd.wide_of {f g : List Q0} {to : List Int} (hl : g.length = f.length) (hg : ∀ m, 0 ≤ m → m < (f.length : Int) → gt g m = Bw.wide (gt f m)) {sc : List (Int × Bool)} {l n : Int} (b : Bd g to sc l n) : Bd f to sc l n := by
 induction b with
 | @var sc n h0 h1 hk hs =>
  rw [hl] at h1
  rw [hg n h0 h1] at hk
  exact .var h0 h1 (Q152 (by decide) hk) hs
 | @leaf sc n h0 h1 hk h4 =>
  rw [hl] at h1
  rw [hg n h0 h1] at hk h4
  refine .leaf h0 h1 ?_ fun h => h4 ?_
  ·unfold Bw.wide at hk
   unfold Leafy at hk ⊢
   split at hk <;> omega
  ·unfold Bw.wide
   rw [if_neg (by omega)]; exact h
 | @not sc l n h1 hk ha s ih =>
  have := s.le
  rw [hl] at h1
  rw [hg n (by omega) h1] at hk ha
  rw [(Q168 _).1] at ha
  exact .not h1 (Q152 (by decide) hk) ha ih
 | @modal sc l n h1 hk ha s ih =>
  have := s.le
  rw [hl] at h1
  rw [hg n (by omega) h1] at hk ha
  rw [(Q168 _).1] at ha
  exact .modal h1 (hk.imp (Q152 (by decide)) (Q152 (by decide))) ha ih
 | @fix sc l n h1 hk ha s ih =>
  have := s.le
  rw [hl] at h1
  rw [hg n (by omega) h1] at hk ha
  rw [(Q168 _).1] at ha
  exact .fix h1 (hk.imp (Q152 (by decide)) (Q152 (by decide))) ha ih
 | @two sc l m n h1 hk ha hb s t ih1 ih2 =>
  have := s.le
  have := t.le
  rw [hl] at h1
  rw [hg n (by omega) h1] at hk ha hb
  rw [(Q168 _).1] at ha
  rw [(Q168 _).2.1] at hb
  exact .two h1 (hk.imp (Q152 (by decide)) (Q152 (by decide))) ha hb ih1 ih2
end Go.Bw
namespace Go.Bw
open Go Go.RowKit

theorem Q244 {ρ : Type} (f : List Q0) (hl : (f.length : Int) ≤ 9223372036854775800) {body : (List Q0) × Int → Option (((List Q0) × Int) ⊕ ((List Q0) ⊕ ρ))}
 (hb : ∀ t i, body (t, i) = if i < (f.length : Int) then
  jn (if (0 : Int) ≤ i ∧ i < (f.length : Int) then if (gt t i).Kind = 12 then some (.inl (st t i ({ gt t i with Kind := 3 }))) else some (.inl t) else none) (fun (x : List Q0) => nx (x, IntKind.i64.wrap (i + 1)))
 else dn (.inl t)) : ∃ g, iter body (f, 0) = some (.inl g) ∧ g.length = f.length ∧ ∀ m, 0 ≤ m → m < (f.length : Int) → gt g m = wide (gt f m) := by
 obtain ⟨r, hr, g, rfl, hl, hg⟩ := Q38 (body := body) (fun s => s.1.length = f.length ∧ 0 ≤ s.2 ∧ s.2 ≤ (f.length : Int) ∧ (∀ m, 0 ≤ m → m < s.2 → gt s.1 m = wide (gt f m)) ∧ ∀ m, s.2 ≤ m → gt s.1 m = gt f m)
  (fun r => ∃ g, r = .inl g ∧ g.length = f.length ∧ ∀ m, 0 ≤ m → m < (f.length : Int) → gt g m = wide (gt f m)) (fun s => ((f.length : Int) - s.2).toNat) (fun ⟨t, i⟩ ⟨a0, a1, a2, a3, a4⟩ => by
   dsimp only at a0 a1 a2 a3 a4 ⊢
   rw [hb]
   by_cases hi : i < (f.length : Int)
   ·right
    have hx := a4 i (Int.le_refl _)
    rw [if_pos hi, if_pos ⟨a1, hi⟩, wrap64 (x := i + 1) (by omega) (by omega)]
    by_cases hk : (gt t i).Kind = 12
    ·rw [if_pos hk, Q12]
     refine ⟨_, rfl, ⟨by dsimp only; rw [Q90, a0], by dsimp only; omega, by dsimp only; omega, fun m m0 m1 => ?_, fun m m1 => ?_⟩, by dsimp only; omega⟩
     ·dsimp only at m1 ⊢
      rw [Q122 a1 (by omega) m0]
      split
      ·rename_i hmi
       rw [hmi, hx]
       unfold wide
       rw [if_pos (by rw [← hx]; exact hk)]
      ·exact a3 m m0 (by omega)
     ·dsimp only at m1 ⊢
      rw [Q122 a1 (by omega) (by omega), if_neg (by omega)]
      exact a4 m (by omega)
    ·rw [if_neg hk, Q12]
     refine ⟨_, rfl, ⟨a0, by dsimp only; omega, by dsimp only; omega, fun m m0 m1 => ?_, fun m m1 => a4 m (by dsimp only at m1; omega)⟩, by dsimp only; omega⟩
     dsimp only at m1 ⊢
     by_cases hm : m = i
     ·rw [hm, hx]
      unfold wide
      rw [if_neg (by rw [← hx]; exact hk)]
     ·exact a3 m m0 (by omega)
   ·left
    rw [if_neg hi]
    exact ⟨_, rfl, t, rfl, a0, fun m m0 m1 => a3 m m0 (by omega)⟩) (f, 0) ⟨rfl, Int.le_refl 0, by dsimp only; omega, fun m m0 m1 => by dsimp only at m1; omega, fun m _ => rfl⟩
 exact ⟨g, hr, hl, hg⟩
theorem Q329 {f g : List Q0} (hl : g.length = f.length) (hg : ∀ m, 0 ≤ m → m < (f.length : Int) → gt g m = wide (gt f m)) (hs : ∀ n ∈ f, (n.Name.length : Int) ≤ 9223372036854775807) : ∀ x ∈ g, (x.Name.length : Int) ≤ 9223372036854775807 := fun x hx => by
 obtain ⟨q, hq, rfl⟩ := List.getElem_of_mem hx
 have e := hg (q : Int) (by omega) (by omega)
 rw [Q99 (List.getElem?_eq_getElem hq)] at e
 rw [e, (Q168 _).2.2]
 exact hs _ (Q43 (by omega) (by omega))
structure Po (f : List Q0) (to : List Int) : Prop where
 n0 : 1 ≤ f.length
 n1 : f.length ≤ 60
 len : to.length = f.length
 bd : Bd f to [] 0 ((f.length : Int) - 1)
 no5 : ∀ m, 0 ≤ m → m < (f.length : Int) → (gt f m).Kind ≠ 5
theorem not_run (f : List Q0) (hl : (f.length : Int) ≤ 9223372036854775800) : ∃ b, Q131.f f = some b ∧ (b = true ↔ ∃ m, 0 ≤ m ∧ m < (f.length : Int) ∧ (gt f m).Kind = 5) := by
 unfold Q131.f Q66.f
 obtain ⟨r, hr, hq⟩ := Q38 (body := fun t_ : Int => Q66.l0b f t_) (fun i => 0 ≤ i ∧ ∀ m, 0 ≤ m → m < i → m < (f.length : Int) → (gt f m).Kind ≠ 5)
  (fun r => (∃ i, r = .inr i ∧ 0 ≤ i ∧ i < (f.length : Int) ∧ (gt f i).Kind = 5) ∨ r = .inl () ∧ ∀ m, 0 ≤ m → m < (f.length : Int) → (gt f m).Kind ≠ 5) (fun i => ((f.length : Int) - i).toNat) (fun i ⟨i0, hp⟩ => by
   unfold Q66.l0b Q141.f
   by_cases hi : i < (f.length : Int)
   ·rw [if_pos hi, if_pos ⟨i0, hi⟩, Option.bind_some]
    by_cases k5 : (gt f i).Kind = 5
    ·left; rw [if_pos (decide_eq_true k5)]; exact ⟨_, rfl, .inl ⟨i, rfl, i0, hi, k5⟩⟩
    ·right
     rw [if_neg (by simpa using k5), wrap64 (x := i + 1) (by omega) (by omega)]
     refine ⟨_, rfl, ⟨by omega, fun m m0 m1 m2 => ?_⟩, by omega⟩
     by_cases hm : m = i
     ·subst hm; exact k5
     ·exact hp m m0 (by omega) m2
   ·left
    rw [if_neg hi]
    exact ⟨_, rfl, .inr ⟨rfl, fun m m0 m1 => hp m m0 (by omega) m1⟩⟩) 0 ⟨Int.le_refl 0, fun m m0 m1 => by omega⟩
 have hr' : Q66.l0 f 0 = some r := hr
 rcases hq with ⟨i, rfl, h1, h2, h3⟩ | ⟨rfl, h⟩
 ·refine ⟨true, ?_, ?_⟩
  ·rw [hr', jn_inr]
   simp [h1]
  ·exact ⟨fun _ => ⟨i, h1, h2, h3⟩, fun _ => rfl⟩
 ·refine ⟨false, ?_, ?_⟩
  ·rw [hr', Q12]
   simp
  ·exact ⟨fun h => (by cases h), fun ⟨m, m0, m1, mk⟩ => absurd mk (h m m0 m1)⟩
theorem is_run (f : List Q0) (hs : ∀ n ∈ f, (n.Name.length : Int) ≤ 9223372036854775807) (hz : (0 + f.length) * 48 ≤ 140737488355328) :
 Q53.f f = some false ∨ Q53.f f = some true ∧ ∃ to, Q54.f f = some to ∧ Po f to := by
 obtain ⟨b, hb, hbi⟩ := not_run f (by omega)
 unfold Q53.f
 rw [hb, Option.bind_some]
 cases b with
 | true => left; simp [jn]
 | false =>
  have no5 : ∀ m, 0 ≤ m → m < (f.length : Int) → (gt f m).Kind ≠ 5 := fun m m0 m1 mk => by
   have := hbi.2 ⟨m, m0, m1, mk⟩
   cases this
  obtain ⟨g, hg0, hl, hg⟩ := Q244 f (by omega) (body := fun t_ : (List Q0) × Int => Q64.l0b f t_.1 t_.2) (fun t i => rfl)
  have hgs := Q329 hl hg hs
  obtain ⟨e, i, hc, hB⟩ := check_run g hgs
  have hw : Q64.f f = some (decide (e = 0)) := by
   unfold Q64.f Q105.f
   have h0 : Q64.l0 f f 0 = some (.inl g) := hg0
   rw [if_pos hz, Option.bind_some, h0, Q12, hc]
   rfl
  by_cases he : e = 0
  ·right
   obtain ⟨to, B⟩ := hB he
   have B0 := B.n0
   have B1 := B.n1
   have bd : Bd f to [] 0 ((f.length : Int) - 1) := by have := B.bd.wide_of hl hg; rwa [hl] at this
   refine ⟨by simp [hw, he, jn], to, ?_, by omega, by omega, by rw [B.len, hl], bd, no5⟩
   obtain ⟨g2, hg2, hl2, hgg⟩ := Q244 f (by omega) (body := fun t_ : (List Q0) × Int => Q54.l0b f t_.1 t_.2) (fun t i => rfl)
   have hgg2 : g2 = g := ext_gt (by omega) fun k hk => by rw [hgg (k : Int) (by omega) (by omega), hg (k : Int) (by omega) (by omega)]
   subst hgg2
   unfold Q54.f Q105.f
   have h0 : Q54.l0 f f 0 = some (.inl g2) := hg2
   rw [if_pos hz, Option.bind_some, h0, Q12, B.bi]
   rfl
  ·left
   simp [hw, he, jn]
end Go.Bw
namespace Go.Bw
open Go Go.RowKit
theorem Bd.atF {f : List Q0} {to : List Int} {sc : List (Int × Bool)} {l n : Int} (b : Bd f to sc l n) : (∀ p ∈ sc, n < p.1 ∧ p.1 < (f.length : Int) ∧ Fixy (gt f p.1).Kind) → n < (f.length : Int) → ∀ m, l ≤ m → m ≤ n → ∃ sc' l', Bd f to sc' l' m ∧ ∀ p ∈ sc', m < p.1 ∧ p.1 < (f.length : Int) ∧ Fixy (gt f p.1).Kind := by
 induction b with
 | @var sc n h0 h1 hk hs => intro hsc hN m m0 m1; obtain rfl : m = n := (by omega); exact ⟨sc, m, .var h0 h1 hk hs, hsc⟩
 | @leaf sc n h0 h1 hk h4 => intro hsc hN m m0 m1; obtain rfl : m = n := (by omega); exact ⟨sc, m, .leaf h0 h1 hk h4, hsc⟩
 | @not sc l n h1 hk ha s ih =>
  intro hsc hN m m0 m1
  by_cases hm : m = n
  ·subst hm; exact ⟨sc, l, .not h1 hk ha s, hsc⟩
  ·exact ih (fun p hp => by obtain ⟨q, hq, rfl⟩ := List.mem_map.1 hp; have := hsc q hq; exact ⟨by dsimp only; omega, this.2.1, this.2.2⟩) (by omega) m m0 (by omega)
 | @modal sc l n h1 hk ha s ih =>
  intro hsc hN m m0 m1
  by_cases hm : m = n
  ·subst hm; exact ⟨sc, l, .modal h1 hk ha s, hsc⟩
  ·exact ih (fun p hp => by have := hsc p hp; exact ⟨by omega, this.2.1, this.2.2⟩) (by omega) m m0 (by omega)
 | @fix sc l n h1 hk ha s ih =>
  intro hsc hN m m0 m1
  by_cases hm : m = n
  ·subst hm; exact ⟨sc, l, .fix h1 hk ha s, hsc⟩
  ·refine ih (fun p hp => ?_) (by omega) m m0 (by omega)
   rcases List.mem_cons.1 hp with rfl | hp
   ·exact ⟨by dsimp only; omega, h1, hk⟩
   ·have := hsc p hp; exact ⟨by omega, this.2.1, this.2.2⟩
 | @two sc l q n h1 hk ha hb s t ih1 ih2 =>
  intro hsc hN m m0 m1
  have := s.le
  have := t.le
  by_cases hm : m = n
  ·subst hm; exact ⟨sc, l, .two h1 hk ha hb s t, hsc⟩
  ·by_cases hq : m ≤ q
   ·exact ih1 (fun p hp => by have := hsc p hp; exact ⟨by omega, this.2.1, this.2.2⟩) (by omega) m m0 hq
   ·exact ih2 (fun p hp => by have := hsc p hp; exact ⟨by omega, this.2.1, this.2.2⟩) (by omega) m (by omega) (by omega)
end Go.Bw
namespace Go.Bw
open Go Go.RowKit

def Wn (N : Nat) (x : Int) : Prop := ∃ v : BitVec 64, x = Wd v ∧ ∀ b, v.getLsbD b = true → b < N
theorem Wn.zero (N : Nat) : Wn N 0 := ⟨0#64, rfl, fun b h => by simp at h⟩
theorem Wn.or {N : Nat} {x y : Int} (hx : Wn N x) (hy : Wn N y) : Wn N (bor .u64 x y) := by
 obtain ⟨u, rfl, h1⟩ := hx
 obtain ⟨v, rfl, h2⟩ := hy
 refine ⟨u ||| v, bor_wd u v, fun b h => ?_⟩
 rw [BitVec.getLsbD_or, Bool.or_eq_true] at h
 exact h.elim (h1 b) (h2 b)
theorem Wn.minus {N : Nat} {x : Int} (hx : Wn N x) (w : BitVec 64) : Wn N (bandnot .u64 x (Wd w)) := by
 obtain ⟨u, rfl, h1⟩ := hx
 refine ⟨u &&& ~~~ w, Q327 u w, fun b h => ?_⟩
 rw [BitVec.getLsbD_and, Bool.and_eq_true] at h
 exact h1 b h.1
theorem shl_bit {k : Int} (h0 : 0 ≤ k) (h1 : k < 64) : Bw.shl .u64 1 k = Wd (BitVec.twoPow 64 k.toNat) := shl_one h0 h1
theorem free_run {f : List Q0} {to : List Int} (p : Po f to) (hb : Q54.f f = some to) (hi : Q53.f f = some true) :
 ∃ w, Q29.f f = some w ∧ w.length = f.length ∧ (∀ m, Wn f.length (gt w m)) ∧ ∀ m, 0 ≤ m → m < (f.length : Int) → (gt f m).Kind = 4 → gt w m = Wd (BitVec.twoPow 64 (gt to m).toNat) ∧ m < gt to m ∧ gt to m < (f.length : Int) ∧ Fixy (gt f (gt to m)).Kind := by
 have n1 := p.n1
 have hrl : (List.replicate (f.length : Int).toNat (0 : Int)).length = f.length := by simp
 have vars : ∀ m, 0 ≤ m → m < (f.length : Int) → (gt f m).Kind = 4 → m < gt to m ∧ gt to m < (f.length : Int) ∧ Fixy (gt f (gt to m)).Kind := fun m m0 m1 mk => by
  obtain ⟨sc, l, bm, hsc⟩ := p.bd.atF (fun q hq => by cases hq) (by omega) m m0 (by omega)
  cases bm with
  | var h0 h1 hk hs => exact ⟨(hsc _ hs).1, (hsc _ hs).2.1, (hsc _ hs).2.2⟩
  | leaf h0 h1 hk h4 => exact absurd mk h4
  | not h1 hk ha s => omega
  | modal h1 hk ha s => unfold Modal at hk; omega
  | fix h1 hk ha s => unfold Fixy at hk; omega
  | two h1 hk ha hb s t => unfold Twoy at hk; omega
 obtain ⟨r, hr, w, rfl, h1, h2, h3⟩ := Q38 (body := fun t_ : (List Int) × Int => Q29.l0b f to t_.1 t_.2)
  (fun s => s.1.length = f.length ∧ 0 ≤ s.2 ∧ s.2 ≤ (f.length : Int) ∧ (∀ m, Wn f.length (gt s.1 m)) ∧ ∀ m, 0 ≤ m → m < s.2 → (gt f m).Kind = 4 → gt s.1 m = Wd (BitVec.twoPow 64 (gt to m).toNat))
  (fun r => ∃ w, r = .inl w ∧ w.length = f.length ∧ (∀ m, Wn f.length (gt w m)) ∧ ∀ m, 0 ≤ m → m < (f.length : Int) → (gt f m).Kind = 4 → gt w m = Wd (BitVec.twoPow 64 (gt to m).toNat)) (fun s => ((f.length : Int) - s.2).toNat) (fun ⟨w, i⟩ ⟨a0, a1, a2, a3, a4⟩ => by
   dsimp only at a0 a1 a2 a3 a4 ⊢
   by_cases hi : i < (f.length : Int)
   rotate_left
   ·left
    refine ⟨.inl w, ?_, w, rfl, a0, a3, fun m m0 m1 => a4 m m0 (by omega)⟩
    unfold Q29.l0b
    rw [if_neg hi]
    rfl
   right
   have hst : ∀ v : Int, Wn f.length v → ∀ m, Wn f.length (gt (st w i v) m) := fun v hv m => by
    by_cases hm : 0 ≤ m
    ·rw [Q122 a1 (by omega) hm]
     split
     ·exact hv
     ·exact a3 m
    ·have : gt (st w i v) m = gt (st w i v) 0 := by unfold gt; rw [show m.toNat = 0 by omega]; rfl
     rw [this, Q122 a1 (by omega) (Int.le_refl 0)]
     split
     ·exact hv
     ·exact a3 0
   have put : ∀ v : Int, ((gt f i).Kind = 4 → v = Wd (BitVec.twoPow 64 (gt to i).toNat)) → ∀ m, 0 ≤ m → m < i + 1 → (gt f m).Kind = 4 → gt (st w i v) m = Wd (BitVec.twoPow 64 (gt to m).toNat) := fun v hv m m0 m1 mk => by
    rw [Q122 a1 (by omega) m0]
    split
    ·rename_i h; subst h; exact hv mk
    ·exact a4 m m0 (by omega) mk
   have fin : ∀ w' : List Int, (∀ m, Wn f.length (gt w' m)) → w'.length = f.length → (∀ m, 0 ≤ m → m < i + 1 → (gt f m).Kind = 4 → gt w' m = Wd (BitVec.twoPow 64 (gt to m).toNat)) → Q29.l0b f to w i = nx (w', IntKind.i64.wrap (i + 1)) →
    ∃ s', Q29.l0b f to w i = some (.inl s') ∧ (s'.1.length = f.length ∧ 0 ≤ s'.2 ∧ s'.2 ≤ (f.length : Int) ∧ (∀ m, Wn f.length (gt s'.1 m)) ∧ ∀ m, 0 ≤ m → m < s'.2 → (gt f m).Kind = 4 → gt s'.1 m = Wd (BitVec.twoPow 64 (gt to m).toNat)) ∧ ((f.length : Int) - s'.2).toNat < ((f.length : Int) - i).toNat := fun w' h1 h2 h3 h4 => by
    rw [wrap64 (x := i + 1) (by omega) (by omega)] at h4
    exact ⟨_, h4, ⟨h2, by dsimp only; omega, by dsimp only; omega, h1, h3⟩, by dsimp only; omega⟩
   obtain ⟨sc, l, bm, hsc⟩ := p.bd.atF (fun q hq => by cases hq) (by omega) i a1 (by omega)
   cases bm with
   | var h0 h1 hk hs =>
    have hv := vars i a1 hi hk
    refine fin (st w i (Wd (BitVec.twoPow 64 (gt to i).toNat))) (hst _ ⟨_, rfl, fun b hb => ?_⟩) (by rw [Q90, a0]) (put _ fun _ => rfl) ?_
    ·rw [BitVec.getLsbD_twoPow] at hb
     simp at hb
     omega
    ·unfold Q29.l0b
     rw [if_pos hi, if_pos ⟨a1, hi⟩, if_pos hk, if_pos ⟨a1, by rw [p.len]; exact hi⟩, if_pos (by omega), hrl, if_pos ⟨a1, hi⟩, Q12, shl_bit (by omega) (by omega)]
   | leaf h0 h1 hk h4 =>
    have hk' : (gt f i).Kind ≠ 6 ∧ (gt f i).Kind ≠ 7 ∧ (gt f i).Kind ≠ 8 ∧ (gt f i).Kind ≠ 9 ∧ (gt f i).Kind ≠ 10 ∧ (gt f i).Kind ≠ 11 := by unfold Leafy at hk; omega
    refine fin w a3 a0 (fun m m0 m1 mk => ?_) ?_
    ·by_cases hm : m = i
     ·subst hm; exact absurd mk h4
     ·exact a4 m m0 (by omega) mk
    ·unfold Q29.l0b
     simp only [if_pos hi, if_pos (And.intro a1 hi), if_neg h4, if_neg hk'.1, decide_eq_false hk'.2.1, if_neg hk'.2.2.1, decide_eq_false hk'.2.2.2.1, if_neg hk'.2.2.2.2.1, decide_eq_false hk'.2.2.2.2.2, Q12, Bool.false_eq_true, if_false]
   | not h1 hk ha s => exact absurd hk (p.no5 i a1 hi)
   | modal h1 hk ha s =>
    have := s.le
    have hk' : (gt f i).Kind ≠ 4 ∧ (gt f i).Kind ≠ 6 ∧ (gt f i).Kind ≠ 7 := by unfold Modal at hk; omega
    have t1 : (if (gt f i).Kind = 8 then (some (.inl (decide ((gt f i).Kind = 8))) : Option (Bool ⊕ ((List Int) ⊕ (((List Int) × Int) ⊕ (((List Int)) ⊕ ((List Int))))))) else some (.inl (decide ((gt f i).Kind = 9)))) = some (.inl true) := by
     rcases hk with hk | hk <;> simp [hk]
    refine fin (st w i (gt w (i - 1))) (hst _ (a3 _)) (by rw [Q90, a0]) (put _ fun h => absurd h hk'.1) ?_
    unfold Q29.l0b
    simp only [if_pos hi, if_pos (And.intro a1 hi), if_neg hk'.1, if_neg hk'.2.1, decide_eq_false hk'.2.2, Q12, Bool.false_eq_true, if_false, hrl, ha]
    rcases hk with hk | hk
    ·simp only [hk, if_true, decide_true, Q12]
     rw [if_pos (by omega)]
     rfl
    ·simp only [hk, show ¬ ((9 : Int) = 8) by decide, if_false, if_true, decide_true, Q12]
     rw [if_pos (by omega)]
     rfl
   | fix h1 hk ha s =>
    have := s.le
    have hk' : (gt f i).Kind ≠ 4 ∧ (gt f i).Kind ≠ 6 ∧ (gt f i).Kind ≠ 7 ∧ (gt f i).Kind ≠ 8 ∧ (gt f i).Kind ≠ 9 := by unfold Fixy at hk; omega
    refine fin (st w i (bandnot .u64 (gt w (i - 1)) (Wd (BitVec.twoPow 64 i.toNat)))) (hst _ ((a3 _).minus _)) (by rw [Q90, a0]) (put _ fun h => absurd h hk'.1) ?_
    unfold Q29.l0b
    simp only [if_pos hi, if_pos (And.intro a1 hi), if_neg hk'.1, if_neg hk'.2.1, decide_eq_false hk'.2.2.1, if_neg hk'.2.2.2.1, decide_eq_false hk'.2.2.2.2, Q12, Bool.false_eq_true, if_false, hrl, ha, shl_bit a1 (show i < 64 by omega)]
    rcases hk with hk | hk
    ·simp only [hk, if_true, decide_true, Q12]
     rw [if_pos (by omega), if_pos a1]
     rfl
    ·simp only [hk, show ¬ ((11 : Int) = 10) by decide, if_false, if_true, decide_true, Q12]
     rw [if_pos (by omega), if_pos a1]
     rfl
   | @two _ _ q _ h1 hk ha hb s t =>
    have := s.le
    have := t.le
    have hk' : (gt f i).Kind ≠ 4 := by unfold Twoy at hk; omega
    refine fin (st w i (bor .u64 (gt w q) (gt w (i - 1)))) (hst _ ((a3 _).or (a3 _))) (by rw [Q90, a0]) (put _ fun h => absurd h hk') ?_
    unfold Q29.l0b
    simp only [if_pos hi, if_pos (And.intro a1 hi), if_neg hk', hrl, ha, hb]
    rcases hk with hk | hk
    ·simp only [hk, if_true, decide_true, Q12]
     rw [if_pos (by omega), if_pos (by omega)]
     rfl
    ·simp only [hk, show ¬ ((7 : Int) = 6) by decide, if_false, if_true, decide_true, Q12]
     rw [if_pos (by omega), if_pos (by omega)]
     rfl) (List.replicate (f.length : Int).toNat (0 : Int), 0) ⟨hrl, Int.le_refl 0, by dsimp only; omega, fun m => by
    dsimp only
    have : gt (List.replicate (f.length : Int).toNat (0 : Int)) m = 0 := by
     unfold gt
     rw [List.getD_eq_getElem?_getD, List.getElem?_replicate]
     split <;> rfl
    rw [this]
    exact Wn.zero _, fun m m0 m1 => by dsimp only at m1; omega⟩
 have hr' : Q29.l0 f to (List.replicate (f.length : Int).toNat (0 : Int)) 0 = some (.inl w) := hr
 refine ⟨w, ?_, h1, h2, fun m m0 m1 mk => ⟨h3 m m0 m1 mk, vars m m0 m1 mk⟩⟩
 unfold Q29.f
 rw [hi, Option.bind_some, if_pos rfl, hb, Option.bind_some, if_pos (by omega), hr', Q12]
theorem and_pred {v : BitVec 64} (h : v ≠ 0#64) : (v &&& (v - 1#64)).toNat < v.toNat := by
 have h0 : v.toNat ≠ 0 := fun e => h (BitVec.eq_of_toNat_eq (by simpa using e))
 have h1 : (v - 1#64).toNat = v.toNat - 1 := by
  rw [BitVec.toNat_sub]
  have := v.isLt
  have : (1#64).toNat = 1 := rfl
  rw [this]
  omega
 rw [BitVec.toNat_and]
 have := Nat.and_le_right (n := v.toNat) (m := (v - 1#64).toNat)
 omega
theorem ranks_run {f : List Q0} {w : List Int} (n0 : f.length ≤ 60) (hw : Q29.f f = some w) (hl : w.length = f.length) (hn : ∀ m, Wn f.length (gt w m)) : ∃ rk, Q27.f f = some rk ∧ rk.length = f.length := by
 have hrl : (List.replicate (w.length : Int).toNat (0 : Int)).length = f.length := by simp [hl]
 have hrl2 : (List.replicate (f.length : Int).toNat (0 : Int)).length = f.length := by simp
 have htk : (f.take (w.length : Int).toNat).length = f.length := by simp [hl]
 have htk2 : f.take (w.length : Int).toNat = f := List.take_of_length_le (by omega)
 have inner : ∀ (low l : List Int) (i : Int) (odd : Int) (v : BitVec 64), (∀ b, v.getLsbD b = true → b < f.length) → low.length = f.length → ∃ low', Q27.l1 w low l i odd low (Wd v) = some (.inl low') ∧ low'.length = f.length := fun low l i odd v hv hlow => by
  obtain ⟨r, hr, low', rfl, h1⟩ := Q38 (body := fun t_ : (List Int) × Int => Q27.l1b w low l i odd t_.1 t_.2) (fun s => s.1.length = f.length ∧ ∃ u : BitVec 64, s.2 = Wd u ∧ ∀ b, u.getLsbD b = true → b < f.length)
   (fun r => ∃ low', r = .inl low' ∧ low'.length = f.length) (fun s => s.2.toNat) (fun ⟨x, c⟩ ⟨g1, u, g2, g3⟩ => by
    dsimp only at g1 g2 ⊢
    subst g2
    unfold Q27.l1b
    by_cases hu : u = 0#64
    ·left
     subst hu
     rw [if_pos (show Wd 0#64 = 0 from rfl)]
     exact ⟨_, rfl, x, rfl, g1⟩
    ·right
     obtain ⟨k, hk, hk1, hk2⟩ := low_ex hu
     have hne : Wd u ≠ 0 := fun e => hu (Wd.inj (e.trans rfl))
     have hkl := g3 k hk1
     rw [if_neg hne, tz_run hk1 hk2, Option.bind_some, hrl, if_pos (by omega), Q247 u hu, Q183]
     refine ⟨_, rfl, ⟨by dsimp only; rw [Q90, g1], _, rfl, fun b hb => ?_⟩, ?_⟩
     ·rw [BitVec.getLsbD_and, Bool.and_eq_true] at hb
      exact g3 b hb.1
     ·dsimp only
      have := and_pred hu
      unfold Wd
      omega) (low, Wd v) ⟨hlow, v, rfl, hv⟩
  exact ⟨low', hr, h1⟩
 obtain ⟨r, hr, low, rk, rfl, h1, h2⟩ := Q38 (body := fun t_ : (List Int) × (List Int) × Int => Q27.l0b f w t_.1 t_.2.1 t_.2.2) (fun s => s.1.length = f.length ∧ s.2.1.length = f.length ∧ 0 ≤ s.2.2)
  (fun r => ∃ low rk, r = .inl (low, rk) ∧ low.length = f.length ∧ rk.length = f.length) (fun s => ((f.length : Int) - s.2.2).toNat) (fun ⟨low, rk, i⟩ ⟨a0, a1, a2⟩ => by
   dsimp only at a0 a1 a2 ⊢
   unfold Q27.l0b
   rw [htk2]
   by_cases hi : i < (f.length : Int)
   ·right
    rw [if_pos hi, if_pos ⟨a2, hi⟩, wrap64 (x := i + 1) (by omega) (by omega)]
    by_cases k10 : (gt f i).Kind = 10
    ·obtain ⟨v, hv, hvb⟩ := hn i
     obtain ⟨low', h1, h2⟩ := inner low rk i 1 v hvb a0
     simp only [if_pos k10, Q12, Bool.false_eq_true, if_false, hrl, hrl2, if_pos (And.intro a2 hi), hl, hv, h1]
     exact ⟨(low', st rk i (IntKind.i64.wrap (gt low i + (Int.tmod (IntKind.i64.wrap (gt low i + 1)) 2))), i + 1), rfl, ⟨h2, by dsimp only; rw [Q90, a1], by dsimp only; omega⟩, by dsimp only; omega⟩
    ·by_cases k11 : (gt f i).Kind = 11
     ·obtain ⟨v, hv, hvb⟩ := hn i
      obtain ⟨low', h1, h2⟩ := inner low rk i 0 v hvb a0
      simp only [if_neg k10, Q12, decide_eq_true k11, Bool.not_true, Bool.false_eq_true, if_false, hrl, hrl2, if_pos (And.intro a2 hi), hl, hv, h1]
      exact ⟨(low', st rk i (IntKind.i64.wrap (gt low i + (Int.tmod (IntKind.i64.wrap (gt low i + 0)) 2))), i + 1), rfl, ⟨h2, by dsimp only; rw [Q90, a1], by dsimp only; omega⟩, by dsimp only; omega⟩
     ·simp only [if_neg k10, Q12, decide_eq_false k11, Bool.not_false, if_true]
      exact ⟨_, rfl, ⟨a0, a1, by dsimp only; omega⟩, by dsimp only; omega⟩
   ·left
    rw [if_neg hi]
    exact ⟨_, rfl, low, rk, rfl, a0, a1⟩) (List.replicate (w.length : Int).toNat (0 : Int), List.replicate (w.length : Int).toNat (0 : Int), 0) ⟨hrl, hrl, Int.le_refl 0⟩
 have hr' : Q27.l0 f w (List.replicate (w.length : Int).toNat (0 : Int)) (List.replicate (w.length : Int).toNat (0 : Int)) 0 = some (.inl (low, rk)) := hr
 refine ⟨rk, ?_, h2⟩
 unfold Q27.f
 rw [hw, Option.bind_some, if_pos (by omega), if_pos (by omega), hr', Q12]
end Go.Bw
namespace Go.Bw
open Go Go.RowKit

theorem Q206 {α : Type} [Inhabited α] {xs ys : List α} {i : Int} (h0 : (xs.length : Int) ≤ i) : gt (xs ++ ys) i = gt ys (i - xs.length) := by
 unfold gt
 rw [List.getD_eq_getElem?_getD, List.getD_eq_getElem?_getD, List.getElem?_append_right (by omega)]
 congr 2
 omega
theorem rise_app {α : Type} [Inhabited α] {lt : α → α → Prop} {a b : List α} (ha : Rise lt a) (hb : Rise lt b) (hab : ∀ u ∈ a, ∀ v ∈ b, lt u v) : Rise lt (a ++ b) := fun i i0 i1 => by
 rw [List.length_append] at i1
 by_cases h1 : i < (a.length : Int)
 ·rw [Q125 (by omega) (by omega), Q125 (by omega) h1]
  exact ha i i0 h1
 ·by_cases h2 : i = (a.length : Int)
  ·rw [Q125 (by omega) (by omega), Q206 (by omega)]
   exact hab _ (Q43 (by omega) (by omega)) _ (Q43 (by omega) (by omega))
  ·rw [Q206 (by omega), Q206 (by omega), show i - 1 - (a.length : Int) = i - a.length - 1 from by omega]
   exact hb _ (by omega) (by omega)
theorem push_loop {α β ρ : Type} [Inhabited α] {L : List α} (f : α → β) {body : List β × Int → Option ((List β × Int) ⊕ (List β ⊕ ρ))} (hL : (L.length : Int) ≤ 1000000) (acc : List β)
 (h1 : ∀ (a : List β) (i : Int), 0 ≤ i → i < (L.length : Int) → a.length = acc.length + i.toNat → body (a, i) = some (.inl (a ++ [f (gt L i)], i + 1))) (h2 : ∀ (a : List β) (i : Int), ¬ i < (L.length : Int) → body (a, i) = some (.inr (.inl a))) :
 iter body (acc, 0) = some (.inl (acc ++ L.map f)) := by
 have key : ∀ (q : Nat) (i : Int), 0 ≤ i → (L.length : Int) - i = q → iter body (acc ++ (L.take i.toNat).map f, i) = some (.inl (acc ++ L.map f)) := fun q => by
  induction q with
  | zero =>
   intro i i0 iq
   rw [Q214 (h2 _ i (by omega)), List.take_of_length_le (by omega)]
  | succ q ih =>
   intro i i0 iq
   have hi : i < (L.length : Int) := by omega
   rw [Q217 (h1 _ i i0 hi (by simp; omega))]
   have := ih (i + 1) (by omega) (by omega)
   rw [show (i + 1).toNat = i.toNat + 1 from by omega, List.take_add_one, Q98 i0 hi] at this
   simpa using this
 have := key L.length 0 (by decide) (by omega)
 simpa using this
end Go.Bw
namespace Go.Bw
open Go Go.RowKit

def Hx (z : List Q5) (m : List (Bs × Q4)) : Prop := ∀ k, ∃ u : W4, (mget m k).getD set0 = u.s ∧ u.Rep (fun t => ∃ p ∈ z, p.Name = k ∧ t ∈ p.States)
theorem holds_run (z : List Q5) (hz : (z.length : Int) ≤ 9223372036854775807) (hs : ∀ p ∈ z, (p.States.length : Int) ≤ 9223372036854775807) (hd : ∀ i j : Int, 0 ≤ i → i < j → j < (z.length : Int) → (gt z i).Name ≠ (gt z j).Name) :
 ∃ m, Q16.l0 z [] 0 = some (.inl m) ∧ Hx z m := by
 obtain ⟨r, hr, m, rfl, hm⟩ := Q38 (body := fun t_ : List (Bs × Q4) × Int => Q16.l0b z t_.1 t_.2) (fun s => 0 ≤ s.2 ∧ s.2 ≤ (z.length : Int) ∧ Hx (z.take s.2.toNat) s.1)
  (fun r => ∃ m, r = .inl m ∧ Hx z m) (fun s => ((z.length : Int) - s.2).toNat) (fun ⟨m, i⟩ ⟨h0, h1, h2⟩ => by
   dsimp only at h0 h1 h2 ⊢
   unfold Q16.l0b
   by_cases hi : i < (z.length : Int)
   ·right
    obtain ⟨u, hu, hur⟩ := of_run4 (hs _ (Q43 h0 hi))
    rw [if_pos hi, if_pos ⟨h0, hi⟩, hu, wrap64 (x := i + 1) (by omega) (by omega)]
    refine ⟨_, rfl, ⟨by dsimp only; omega, by dsimp only; omega, fun k => ?_⟩, by dsimp only; omega⟩
    dsimp only
    rw [show (i + 1).toNat = i.toNat + 1 from by omega, List.take_add_one, Q98 h0 hi, Q215]
    by_cases hk : (gt z i).Name = k
    ·rw [if_pos hk]
     refine ⟨u, rfl, fun n n0 n1 => ?_⟩
     rw [hur n n0 n1]
     constructor
     ·intro h; exact ⟨gt z i, by simp, hk, h⟩
     ·rintro ⟨p, hp, e1, e2⟩
      rcases List.mem_append.1 hp with hp | hp
      ·obtain ⟨q, hq, rfl⟩ := List.getElem_of_mem hp
       have hq' : q < i.toNat := by simp at hq; omega
       have hq2 : q < z.length := by simp at hq; omega
       have := hd q i (by omega) (by omega) hi
       rw [Q99 (List.getElem?_eq_getElem hq2)] at this
       simp only [List.getElem_take] at e1
       exact absurd (e1.trans hk.symm) this
      ·simp at hp; subst hp; exact e2
    ·rw [if_neg hk]
     obtain ⟨v, hv, hvr⟩ := h2 k
     refine ⟨v, hv, fun n n0 n1 => ?_⟩
     rw [hvr n n0 n1]
     constructor
     ·rintro ⟨p, a, b⟩; exact ⟨p, by simp [a], b⟩
     ·rintro ⟨p, a, b, c⟩
      rcases List.mem_append.1 a with a | a
      ·exact ⟨p, a, b, c⟩
      ·simp at a; subst a; exact absurd b hk
   ·left
    rw [if_neg hi]
    rw [List.take_of_length_le (by omega)] at h2
    exact ⟨_, rfl, m, rfl, h2⟩) ([], 0) ⟨Int.le_refl _, by dsimp only; omega, fun k => ⟨W4.z, rfl, fun n n0 n1 => by
     rw [W4.z_rep n n0 n1]
     simp⟩⟩
 exact ⟨m, hr, hm⟩
end Go.Bw
namespace Go.Bw
open Go Go.RowKit

section
variable {n : Int} {x : List Bs} {y : List Q3} {z : List Q5} {next : List (Q9 × Q4)} {holds : List (Bs × Q4)}
noncomputable def nxW (hx : Nx x y next) (s : Int) (a : Bs) : W4 := (hx ⟨s, a⟩).choose
theorem Q210 (hx : Nx x y next) (s : Int) (a : Bs) : (nxW hx s a).Rep (Hit x y ⟨s, a⟩) := (hx ⟨s, a⟩).choose_spec.2
theorem nxW_run (hx : Nx x y next) (n : Int) (holds : List (Bs × Q4)) (s : Int) (a : Bs) : Q137.f n holds next s a = some (nxW hx s a).t := by
 have h := (hx ⟨s, a⟩).choose_spec.1
 unfold Q137.f
 rw [h]
 rfl
end
end Go.Bw
namespace Go.Bw
open Go Go.RowKit

section
variable {z : List Q5} {holds : List (Bs × Q4)}
noncomputable def hoW (hh : Hx z holds) (a : Bs) : W4 := (hh a).choose
theorem hoW_rep (hh : Hx z holds) (a : Bs) : (hoW hh a).Rep (fun t => ∃ p ∈ z, p.Name = a ∧ t ∈ p.States) := (hh a).choose_spec.2
theorem hoW_run (hh : Hx z holds) (n : Int) (next : List (Q9 × Q4)) (a : Bs) : Q133.f n holds next a = some (hoW hh a).t := by
 have h := (hh a).choose_spec.1
 unfold Q133.f
 rw [h]
 rfl
end
theorem new_none {n : Int} {x : List Bs} {y : List Q3} {z : List Q5} (hs : ∀ p ∈ z, (p.States.length : Int) ≤ 9223372036854775807) (h : ¬ RightS n x y z) : Q16.f n x y z = some none := by
 obtain ⟨b, hb, hf⟩ := Q246 n x y z hs
 have hbt : b = false := by
  cases b with
  | false => rfl
  | true => exact absurd (hf.1 rfl) h
 subst hbt
 unfold Q16.f
 rw [hb]
 simp [jn]
end Go.Bw
namespace Go.Bw
open Go Go.RowKit

instance (k : Int) : Decidable (Twoy k) := by unfold Twoy; infer_instance
instance (k : Int) : Decidable (Modal k) := by unfold Modal; infer_instance
instance (k : Int) : Decidable (Fixy k) := by unfold Fixy; infer_instance
theorem beq_t (b : Bool) : (b == true) = b := by cases b <;> rfl
theorem beq_f (b : Bool) : (b == false) = !b := by cases b <;> rfl
def tT (nl : Int → Bs → List Int) (f : List Q0) (to : List Int) (k : Q2) : List Q2 :=
 if (gt f k.Node).Kind = 4 then [⟨k.State, gt to k.Node⟩]
 else if Twoy (gt f k.Node).Kind then [⟨k.State, (gt f k.Node).A⟩, ⟨k.State, (gt f k.Node).B⟩]
 else if Modal (gt f k.Node).Kind then (if nl k.State (gt f k.Node).Name = [] then [k] else (nl k.State (gt f k.Node).Name).map fun s => ⟨s, (gt f k.Node).A⟩)
 else if Fixy (gt f k.Node).Kind then [⟨k.State, (gt f k.Node).A⟩]
 else [k]
def tO (f : List Q0) (k : Q2) : Int := if (gt f k.Node).Kind = 6 ∨ (gt f k.Node).Kind = 9 then 1 else 0
def tP (nl : Int → Bs → List Int) (ho : Bs → Int → Bool) (f : List Q0) (rk : List Int) (k : Q2) : Int :=
 if (gt f k.Node).Kind = 2 then 1
 else if (gt f k.Node).Kind = 3 then (if ho (gt f k.Node).Name k.State = true then 0 else 1)
 else if (gt f k.Node).Kind = 12 then (if ho (gt f k.Node).Name k.State = true then 1 else 0)
 else if (gt f k.Node).Kind = 8 then (if nl k.State (gt f k.Node).Name = [] then 1 else 0)
 else if Fixy (gt f k.Node).Kind then gt rk k.Node
 else 0
def Ky (n : Int) (f : List Q0) (k : Q2) : Prop := (0 ≤ k.State ∧ k.State < n) ∧ 0 ≤ k.Node ∧ k.Node < (f.length : Int)
structure Nl (n : Int) (nl : Int → Bs → List Int) : Prop where
 up : ∀ s a, (nl s a).Pairwise (· < ·)
 in_ : ∀ s a, ∀ t ∈ nl s a, 0 ≤ t ∧ t < n
 len : ∀ s a, (nl s a).length ≤ 256
section
variable {n : Int} {nl : Int → Bs → List Int} {f : List Q0} {to rk w : List Int} {ho : Bs → Int → Bool}
theorem tT_ok (p : Po f to) (hn : Nl n nl) {k : Q2} (hk : Ky n f k) : (∀ t ∈ tT nl f to k, Ky n f t) ∧ (tT nl f to k).Nodup ∧ (tT nl f to k).length ≤ 256 ∧ tT nl f to k ≠ [] := by
 obtain ⟨hs, h0, h1⟩ := hk
 obtain ⟨sc, l, bm, hsc⟩ := p.bd.atF (fun q hq => by cases hq) (by omega) k.Node h0 (by omega)
 have self : (∀ t ∈ [k], Ky n f t) ∧ [k].Nodup ∧ [k].length ≤ 256 ∧ [k] ≠ [] := ⟨fun t ht => by rw [List.mem_singleton.1 ht]; exact ⟨hs, h0, h1⟩, by simp, by simp, by simp⟩
 unfold tT
 cases bm with
 | var _ _ hk hs' =>
  have := hsc _ hs'
  dsimp only at this
  rw [if_pos hk]
  exact ⟨fun t ht => by rw [List.mem_singleton.1 ht]; exact ⟨hs, by dsimp only; omega, this.2.1⟩, by simp, by simp, by simp⟩
 | leaf _ _ hk h4 =>
  rw [if_neg h4, if_neg (by unfold Twoy; unfold Leafy at hk; omega), if_neg (by unfold Modal; unfold Leafy at hk; omega), if_neg (by unfold Fixy; unfold Leafy at hk; omega)]
  exact self
 | not _ hk ha s => exact absurd hk (p.no5 _ h0 h1)
 | modal _ hk ha s =>
  have := s.le
  rw [if_neg (by unfold Modal at hk; omega), if_neg (by unfold Twoy; unfold Modal at hk; omega), if_pos hk]
  split
  ·exact self
  ·rename_i hne
   refine ⟨fun t ht => ?_, ?_, by rw [List.length_map]; exact hn.len _ _, fun e => hne (List.map_eq_nil_iff.1 e)⟩
   ·obtain ⟨s', hs', rfl⟩ := List.mem_map.1 ht
    exact ⟨hn.in_ _ _ s' hs', by dsimp only; omega, by dsimp only; omega⟩
   ·rw [List.nodup_iff_pairwise_ne, List.pairwise_map]
    exact (hn.up _ _).imp fun {a b} hab e => by
     have := congrArg Q2.State e
     dsimp only at this
     omega
 | fix _ hk ha s =>
  have := s.le
  rw [if_neg (by unfold Fixy at hk; omega), if_neg (by unfold Twoy; unfold Fixy at hk; omega), if_neg (by unfold Modal; unfold Fixy at hk; omega), if_pos hk]
  exact ⟨fun t ht => by rw [List.mem_singleton.1 ht]; exact ⟨hs, by dsimp only; omega, by dsimp only; omega⟩, by simp, by simp, by simp⟩
 | two _ hk ha hb s t =>
  have := s.le
  have := t.le
  rw [if_neg (by unfold Twoy at hk; omega), if_pos hk]
  refine ⟨fun t ht => ?_, ?_, by simp, by simp⟩
  ·rcases List.mem_cons.1 ht with rfl | ht
   ·exact ⟨hs, by dsimp only; omega, by dsimp only; omega⟩
   ·rw [List.mem_singleton.1 ht]
    exact ⟨hs, by dsimp only; omega, by dsimp only; omega⟩
  ·simp
   omega
end
section
variable {n : Int} {x : List Bs} {y : List Q3} {z : List Q5} {next : List (Q9 × Q4)} {holds : List (Bs × Q4)} {f : List Q0} {to rk w : List Int} {O P : List Int} {Ms : List (List Int)}
noncomputable def nxl (hx : Nx x y next) (s : Int) (a : Bs) : List Int := (nxW hx s a).list
noncomputable def hol (hh : Hx z holds) (a : Bs) (s : Int) : Bool := (hoW hh a).has s
theorem list_rise (u : W4) : u.list.Pairwise (· < ·) := by
 unfold W4.list
 have r := fun b w => Q313 b w
 have lo : ∀ {b : Int} {w : BitVec 64} {t : Int}, t ∈ wplaces b w → b ≤ t ∧ t < b + 64 := fun {b w t} h => by
  obtain ⟨i, hi, _, rfl⟩ := Q255.1 h
  omega
 rw [List.pairwise_append, List.pairwise_append, List.pairwise_append]
 refine ⟨⟨⟨r _ _, r _ _, fun a ha b hb => ?_⟩, r _ _, fun a ha b hb => ?_⟩, r _ _, fun a ha b hb => ?_⟩
 ·have := lo ha; have := lo hb; omega
 ·rcases List.mem_append.1 ha with ha | ha
  ·have := lo ha; have := lo hb; omega
  ·have := lo ha; have := lo hb; omega
 ·rcases List.mem_append.1 ha with ha | ha
  ·rcases List.mem_append.1 ha with ha | ha
   ·have := lo ha; have := lo hb; omega
   ·have := lo ha; have := lo hb; omega
  ·have := lo ha; have := lo hb; omega
theorem nxl_mem (hx : Nx x y next) {s t : Int} {a : Bs} : t ∈ nxl hx s a ↔ 0 ≤ t ∧ t < 256 ∧ Hit x y ⟨s, a⟩ t := mem_list (Q210 hx s a)
theorem nxl_ok (R : RightS n x y z) (hx : Nx x y next) : Nl n (nxl hx) := by
 refine ⟨fun s a => list_rise _, fun s a t ht => ?_, fun s a => Q248 _⟩
 obtain ⟨_, _, e, he, _, h2, _⟩ := (nxl_mem hx).1 ht
 have := R.ed e he
 unfold EdgeIn at this
 omega
theorem Q175 {M : List (Q2 × Int)} {L : List Q2} {k : Q2} (o : Int) (won : Bool) {r : (List (List Int)) × (List Int) × (List Int) × (List (Q2 × Int)) × (List Q2)} (h : Q17.f n holds next f w rk M L O P Ms o (if won = true then 0 else 1) [k] = some r) :
 Q86.f n holds next f w rk M L O P Ms k.State k.Node o won = some (r.2.2.2.1, r.2.2.2.2, r.2.2.1, r.2.1, r.1) := by
 have hk : (⟨k.State, k.Node⟩ : Q2) = k := by cases k; rfl
 unfold Q86.f
 rw [hk]
 cases won with
 | true => rw [if_pos rfl] at h ⊢; rw [h]; rfl
 | false => rw [if_neg (by decide)] at h ⊢; rw [h]; rfl
theorem Q286 (R : RightS n x y z) (hx : Nx x y next) (k : Q2) (q : Q0) (own : Int) : ∀ {M : List (Q2 × Int)} {L : List Q2} {r : (List (List Int)) × (List Int) × (List Int) × (List (Q2 × Int)) × (List Q2)},
 Q17.f n holds next f w rk M L O P Ms own (if nxl hx k.State q.Name = [] then (if own = 1 then 0 else 1) else 0) (if nxl hx k.State q.Name = [] then [k] else (nxl hx k.State q.Name).map fun s => ⟨s, q.A⟩) = some r →
 Q45.f n holds next f w rk M L O P Ms k.State k.Node q.Kind q.A q.B q.Name q.At own = some (r.2.2.2.1, r.2.2.2.2, r.2.2.1, r.2.1, r.1) := fun {M L r} h => by
 have hl : (nxl hx k.State q.Name).length ≤ 256 := Q248 _
 unfold Q45.f
 rw [nxW_run hx, Option.bind_some]
 simp only [W4.t, list_run, Option.bind_some]
 have hloop : Q45.l0 q.A (nxW hx k.State q.Name).list [] 0 = some (.inl ((nxl hx k.State q.Name).map fun s => ⟨s, q.A⟩)) := by
  have := push_loop (L := nxl hx k.State q.Name) (β := Q2) (ρ := (List (Q2 × Int)) × (List Q2) × (List Int) × (List Int) × (List (List Int))) (fun s => (⟨s, q.A⟩ : Q2)) (body := fun t_ : (List Q2) × Int => Q45.l0b q.A (nxW hx k.State q.Name).list t_.1 t_.2) (by omega) [] (fun a i i0 i1 ha => by
   simp only [Q45.l0b]
   have e : (nxW hx k.State q.Name).list = nxl hx k.State q.Name := rfl
   rw [e, if_pos i1, if_pos ⟨i0, i1⟩, if_pos (by simp at ha ⊢; omega), wrap64 (x := i + 1) (by omega) (by omega)]
   rfl) (fun a i hi => by
   simp only [Q45.l0b]
   have e : (nxW hx k.State q.Name).list = nxl hx k.State q.Name := rfl
   rw [e, if_neg hi]; rfl)
  rw [List.nil_append] at this
  exact this
 rw [hloop, Q12]
 by_cases he : nxl hx k.State q.Name = []
 ·rw [if_pos he, if_pos he] at h
  have h2 := Q175 (k := k) own (decide (own = 1)) (by
   have : (if decide (own = 1) = true then (0 : Int) else 1) = if own = 1 then 0 else 1 := by simp
   rw [this]; exact h)
  rw [if_pos (by rw [he]; rfl), h2]
  rfl
 ·rw [if_neg he, if_neg he] at h
  have : ¬ (((nxl hx k.State q.Name).map fun s => (⟨s, q.A⟩ : Q2)).length : Int) = 0 := by
   rw [List.length_map]
   intro e
   exact he (List.eq_nil_of_length_eq_zero (by omega))
  rw [if_neg this, h]
  rfl
theorem pair_run (R : RightS n x y z) (hx : Nx x y next) (hh : Hx z holds) (p : Po f to) (hrk : rk.length = f.length) (hwl : w.length = f.length) (hw : ∀ m, 0 ≤ m → m < (f.length : Int) → (gt f m).Kind = 4 → gt w m = Wd (BitVec.twoPow 64 (gt to m).toNat)) {M : List (Q2 × Int)} {L : List Q2} (h : KI M L) (hl : (L.length : Int) ≤ 9000) (hO : (O.length : Int) ≤ 9000) (hP : (P.length : Int) ≤ 9000) (hM : (Ms.length : Int) ≤ 9000) {k : Q2} (hk : Ky n f k) :
 ∃ ms M' L', Q126.f n holds next f w rk M L O P Ms k.State k.Node = some (M', L', O ++ [tO f k], P ++ [tP (nxl hx) (hol hh) f rk k], Ms ++ [ms]) ∧ Q17.f n holds next f w rk M L O P Ms (tO f k) (tP (nxl hx) (hol hh) f rk k) (tT (nxl hx) f to k) = some (Ms ++ [ms], P ++ [tP (nxl hx) (hol hh) f rk k], O ++ [tO f k], M', L') ∧ KI M' L' ∧ Ext L L' (tT (nxl hx) f to k) ∧ Mv ms L' (tT (nxl hx) f to k) := by
 obtain ⟨t1, t2, t3, t4⟩ := tT_ok p (nxl_ok R hx) hk
 obtain ⟨ms, M', L', hlay, g1, g2, g3⟩ := lay_run (n := n) (ho := holds) (ne := next) (f := f) (fr := w) (rk := rk) (O := O) (P := P) (Ms := Ms) h (by omega) (by omega) (by omega) (by omega) (tO f k) (tP (nxl hx) (hol hh) f rk k) t2 (by omega)
 refine ⟨ms, M', L', ?_, hlay, g1, g2, g3⟩
 obtain ⟨hs, h0, h1⟩ := hk
 obtain ⟨sc, l, bm, hsc⟩ := p.bd.atF (fun q hq => by cases hq) (by omega) k.Node h0 (by omega)
 have p1 : ∀ (a b c : Int), Q40.f a b c = some (b, a) := fun a b c => rfl
 unfold Q126.f
 rw [if_pos ⟨h0, h1⟩]
 cases bm with
 | var _ _ hK hs' =>
  have hq := hsc _ hs'
  dsimp only at hq
  have n60 := p.n1
  have htz : Q26.f (Wd (BitVec.twoPow 64 (gt to k.Node).toNat)) = some (gt to k.Node) := by
   have := tz_run (v := BitVec.twoPow 64 (gt to k.Node).toNat) (k := (gt to k.Node).toNat) (by rw [BitVec.getLsbD_twoPow]; simp; omega) (fun i hi => by rw [BitVec.getLsbD_twoPow]; simp; omega)
   rw [this]
   congr 1
   omega
  have eO : tO f k = 0 := by unfold tO; rw [if_neg (by omega)]
  have eP : tP (nxl hx) (hol hh) f rk k = 0 := by unfold tP; rw [if_neg (by omega), if_neg (by omega), if_neg (by omega), if_neg (by omega), if_neg (by unfold Fixy; omega)]
  have eT : tT (nxl hx) f to k = [⟨k.State, gt to k.Node⟩] := by unfold tT; rw [if_pos hK]
  rw [eO, eP, eT] at hlay
  rw [eO, eP]
  simp only [hK, show ¬ ((4 : Int) = 1) by decide, show ¬ ((4 : Int) = 2) by decide, show ¬ ((4 : Int) = 3) by decide, show ¬ ((4 : Int) = 12) by decide, if_false, Q12, decide_false, Bool.false_eq_true, if_true, hw _ h0 h1 hK, htz, Option.bind_some, p1, hlay]
  rw [if_pos ⟨h0, by rw [hwl]; exact h1⟩]
 | leaf _ _ hK h4 =>
  have eT : tT (nxl hx) f to k = [k] := by
   unfold tT
   rw [if_neg h4, if_neg (by unfold Twoy; unfold Leafy at hK; omega), if_neg (by unfold Modal; unfold Leafy at hK; omega), if_neg (by unfold Fixy; unfold Leafy at hK; omega)]
  have eO : tO f k = 0 := by unfold tO; rw [if_neg (by unfold Leafy at hK; omega)]
  rw [eT, eO] at hlay
  rw [eO]
  rcases hK with hK | hK | hK | hK | hK
  ·have eP : tP (nxl hx) (hol hh) f rk k = 0 := by unfold tP; rw [if_neg (by omega), if_neg (by omega), if_neg (by omega), if_neg (by omega), if_neg (by unfold Fixy; omega)]
   rw [eP] at hlay ⊢
   have := Q175 (k := k) 0 true hlay
   simp only [hK, if_true, Q12, decide_true, this, Option.bind_some]
  ·have eP : tP (nxl hx) (hol hh) f rk k = 1 := by unfold tP; rw [if_pos hK]
   rw [eP] at hlay ⊢
   have := Q175 (k := k) 0 false hlay
   simp only [hK, show ¬ ((2 : Int) = 1) by decide, if_false, if_true, Q12, decide_true, decide_false, this, Option.bind_some]
  ·have hbit : Q110.f (Wd (hoW hh (gt f k.Node).Name).a) (Wd (hoW hh (gt f k.Node).Name).b) (Wd (hoW hh (gt f k.Node).Name).c) (Wd (hoW hh (gt f k.Node).Name).d) k.State = some (hol hh (gt f k.Node).Name k.State) := by
    rw [has_run, decide_eq_true (show 0 ≤ k.State ∧ k.State < 256 by have := R.n1; omega), Bool.true_and]; rfl
   have eP : tP (nxl hx) (hol hh) f rk k = if hol hh (gt f k.Node).Name k.State = true then 0 else 1 := by unfold tP; rw [if_neg (by omega), if_pos hK]
   rw [eP] at hlay ⊢
   have := Q175 (k := k) 0 (hol hh (gt f k.Node).Name k.State) hlay
   simp only [hK, show ¬ ((3 : Int) = 1) by decide, show ¬ ((3 : Int) = 2) by decide, if_false, if_true, Q12, decide_true, decide_false, Bool.false_eq_true, hoW_run hh, Option.bind_some, W4.t, hbit, beq_t, this]
  ·exact absurd hK h4
  ·have hbit : Q110.f (Wd (hoW hh (gt f k.Node).Name).a) (Wd (hoW hh (gt f k.Node).Name).b) (Wd (hoW hh (gt f k.Node).Name).c) (Wd (hoW hh (gt f k.Node).Name).d) k.State = some (hol hh (gt f k.Node).Name k.State) := by
    rw [has_run, decide_eq_true (show 0 ≤ k.State ∧ k.State < 256 by have := R.n1; omega), Bool.true_and]; rfl
   have eP : tP (nxl hx) (hol hh) f rk k = if hol hh (gt f k.Node).Name k.State = true then 1 else 0 := by unfold tP; rw [if_neg (by omega), if_neg (by omega), if_pos hK]
   rw [eP] at hlay ⊢
   have := Q175 (k := k) 0 (!(hol hh (gt f k.Node).Name k.State)) (r := (Ms ++ [ms], P ++ [if hol hh (gt f k.Node).Name k.State = true then 1 else 0], O ++ [0], M', L')) (by rw [← hlay]; congr 1; cases hol hh (gt f k.Node).Name k.State <;> rfl)
   simp only [hK, show ¬ ((12 : Int) = 1) by decide, show ¬ ((12 : Int) = 2) by decide, show ¬ ((12 : Int) = 3) by decide, if_false, if_true, Q12, decide_true, decide_false, Bool.false_eq_true, hoW_run hh, Option.bind_some, W4.t, hbit, beq_f, this]
 | not _ hK ha s => exact absurd hK (p.no5 _ h0 h1)
 | modal _ hK ha s =>
  have eT : tT (nxl hx) f to k = if nxl hx k.State (gt f k.Node).Name = [] then [k] else (nxl hx k.State (gt f k.Node).Name).map fun s => ⟨s, (gt f k.Node).A⟩ := by
   unfold tT
   rw [if_neg (by unfold Modal at hK; omega), if_neg (by unfold Twoy; unfold Modal at hK; omega), if_pos hK]
  rw [eT] at hlay
  rcases hK with hK | hK
  ·have eO : tO f k = 0 := by unfold tO; rw [if_neg (by omega)]
   have eP : tP (nxl hx) (hol hh) f rk k = if nxl hx k.State (gt f k.Node).Name = [] then 1 else 0 := by unfold tP; rw [if_neg (by omega), if_neg (by omega), if_neg (by omega), if_pos hK]
   rw [eO, eP] at hlay ⊢
   have := Q286 R hx k (gt f k.Node) 0 (r := (Ms ++ [ms], P ++ [if nxl hx k.State (gt f k.Node).Name = [] then 1 else 0], O ++ [0], M', L')) (by rw [← hlay]; congr 1)
   rw [hK] at this
   simp only [hK, show ¬ ((8 : Int) = 1) by decide, show ¬ ((8 : Int) = 2) by decide, show ¬ ((8 : Int) = 3) by decide, show ¬ ((8 : Int) = 12) by decide, show ¬ ((8 : Int) = 4) by decide, show ¬ ((8 : Int) = 6) by decide, show ¬ ((8 : Int) = 7) by decide, if_false, if_true, Q12, decide_true, decide_false, Bool.false_eq_true, this, Option.bind_some]
  ·have eO : tO f k = 1 := by unfold tO; rw [if_pos (.inr hK)]
   have eP : tP (nxl hx) (hol hh) f rk k = 0 := by unfold tP; rw [if_neg (by omega), if_neg (by omega), if_neg (by omega), if_neg (by omega), if_neg (by unfold Fixy; omega)]
   rw [eO, eP] at hlay ⊢
   have := Q286 R hx k (gt f k.Node) 1 (r := (Ms ++ [ms], P ++ [0], O ++ [1], M', L')) (by rw [← hlay]; congr 1; split <;> simp)
   rw [hK] at this
   simp only [hK, show ¬ ((9 : Int) = 1) by decide, show ¬ ((9 : Int) = 2) by decide, show ¬ ((9 : Int) = 3) by decide, show ¬ ((9 : Int) = 12) by decide, show ¬ ((9 : Int) = 4) by decide, show ¬ ((9 : Int) = 6) by decide, show ¬ ((9 : Int) = 7) by decide, show ¬ ((9 : Int) = 8) by decide, if_false, if_true, Q12, decide_true, decide_false, Bool.false_eq_true, this, Option.bind_some]
 | fix _ hK ha s =>
  have eT : tT (nxl hx) f to k = [⟨k.State, (gt f k.Node).A⟩] := by
   unfold tT
   rw [if_neg (by unfold Fixy at hK; omega), if_neg (by unfold Twoy; unfold Fixy at hK; omega), if_neg (by unfold Modal; unfold Fixy at hK; omega), if_pos hK]
  have eO : tO f k = 0 := by unfold tO; rw [if_neg (by unfold Fixy at hK; omega)]
  have eP : tP (nxl hx) (hol hh) f rk k = gt rk k.Node := by unfold tP; rw [if_neg (by unfold Fixy at hK; omega), if_neg (by unfold Fixy at hK; omega), if_neg (by unfold Fixy at hK; omega), if_neg (by unfold Fixy at hK; omega), if_pos hK]
  rw [eT, eO, eP] at hlay
  rw [eO, eP]
  rcases hK with hK | hK
  ·simp only [hK, show ¬ ((10 : Int) = 1) by decide, show ¬ ((10 : Int) = 2) by decide, show ¬ ((10 : Int) = 3) by decide, show ¬ ((10 : Int) = 12) by decide, show ¬ ((10 : Int) = 4) by decide, show ¬ ((10 : Int) = 6) by decide, show ¬ ((10 : Int) = 7) by decide, show ¬ ((10 : Int) = 8) by decide, show ¬ ((10 : Int) = 9) by decide, if_false, if_true, Q12, decide_true, decide_false, Bool.false_eq_true, p1, Option.bind_some, hlay]
   rw [if_pos ⟨h0, by rw [hrk]; exact h1⟩]
  ·simp only [hK, show ¬ ((11 : Int) = 1) by decide, show ¬ ((11 : Int) = 2) by decide, show ¬ ((11 : Int) = 3) by decide, show ¬ ((11 : Int) = 12) by decide, show ¬ ((11 : Int) = 4) by decide, show ¬ ((11 : Int) = 6) by decide, show ¬ ((11 : Int) = 7) by decide, show ¬ ((11 : Int) = 8) by decide, show ¬ ((11 : Int) = 9) by decide, show ¬ ((11 : Int) = 10) by decide, if_false, if_true, Q12, decide_true, decide_false, Bool.false_eq_true, p1, Option.bind_some, hlay]
   rw [if_pos ⟨h0, by rw [hrk]; exact h1⟩]
 | two _ hK ha hb s t =>
  have eT : tT (nxl hx) f to k = [⟨k.State, (gt f k.Node).A⟩, ⟨k.State, (gt f k.Node).B⟩] := by
   unfold tT
   rw [if_neg (by unfold Twoy at hK; omega), if_pos hK]
  have eP : tP (nxl hx) (hol hh) f rk k = 0 := by unfold tP; rw [if_neg (by unfold Twoy at hK; omega), if_neg (by unfold Twoy at hK; omega), if_neg (by unfold Twoy at hK; omega), if_neg (by unfold Twoy at hK; omega), if_neg (by unfold Fixy; unfold Twoy at hK; omega)]
  rw [eT, eP] at hlay
  rw [eP]
  rcases hK with hK | hK
  ·have eO : tO f k = 1 := by unfold tO; rw [if_pos (.inl hK)]
   rw [eO] at hlay ⊢
   simp only [hK, show ¬ ((6 : Int) = 1) by decide, show ¬ ((6 : Int) = 2) by decide, show ¬ ((6 : Int) = 3) by decide, show ¬ ((6 : Int) = 12) by decide, show ¬ ((6 : Int) = 4) by decide, if_false, if_true, Q12, decide_true, decide_false, Bool.false_eq_true, p1, Option.bind_some, hlay]
  ·have eO : tO f k = 0 := by unfold tO; rw [if_neg (by omega)]
   rw [eO] at hlay ⊢
   simp only [hK, show ¬ ((7 : Int) = 1) by decide, show ¬ ((7 : Int) = 2) by decide, show ¬ ((7 : Int) = 3) by decide, show ¬ ((7 : Int) = 12) by decide, show ¬ ((7 : Int) = 4) by decide, show ¬ ((7 : Int) = 6) by decide, if_false, if_true, Q12, decide_true, decide_false, Bool.false_eq_true, p1, Option.bind_some, hlay]
end
end Go.Bw
namespace Go.Bw
open Go Go.RowKit

structure BI (n : Int) (nl : Int → Bs → List Int) (ho : Bs → Int → Bool) (f : List Q0) (to rk : List Int) (c0 : Q2) (M : List (Q2 × Int)) (L : List Q2) (O P : List Int) (Ms : List (List Int)) (i : Int) : Prop where
 ki : KI M L
 first : gt L 0 = c0
 l1 : 1 ≤ L.length
 l5 : L.length ≤ 500
 i0 : 0 ≤ i
 i1 : i ≤ (L.length : Int)
 i2 : i ≤ 200
 lO : (O.length : Int) = i
 lP : (P.length : Int) = i
 lM : (Ms.length : Int) = i
 keys : ∀ k ∈ L, Ky n f k
 own : ∀ j, 0 ≤ j → j < i → gt O j = tO f (gt L j)
 pri : ∀ j, 0 ≤ j → j < i → gt P j = tP nl ho f rk (gt L j)
 mv : ∀ j, 0 ≤ j → j < i → Mv (gt Ms j) L (tT nl f to (gt L j))
 reach : ∀ j, 0 < j → j < (L.length : Int) → ∃ q, 0 ≤ q ∧ q < j ∧ q < i ∧ gt L j ∈ tT nl f to (gt L q)
 clo : ∀ Cl : Q2 → Prop, Cl c0 → (∀ k, Cl k → ∀ t ∈ tT nl f to k, Cl t) → ∀ k ∈ L, Cl k
section
variable {n : Int} {nl : Int → Bs → List Int} {ho : Bs → Int → Bool} {f : List Q0} {to rk : List Int} {c0 : Q2} {M M' : List (Q2 × Int)} {L L' : List Q2} {O P : List Int} {Ms : List (List Int)} {i : Int}
theorem Q204 {α : Type} [Inhabited α] {xs : List α} {v : α} {i j : Int} (hl : (xs.length : Int) = i) (h0 : 0 ≤ j) (h1 : j < i + 1) : gt (xs ++ [v]) j = if j < i then gt xs j else v := by
 split
 ·exact Q125 h0 (by omega)
 ·have : j = (xs.length : Int) := by omega
  rw [this, Q181]
theorem BI.step (h : BI n nl ho f to rk c0 M L O P Ms i) (p : Po f to) (hn : Nl n nl) (hi : i < (L.length : Int)) (h2 : L.length ≤ 200) {ms : List Int} (g1 : KI M' L') (g2 : Ext L L' (tT nl f to (gt L i))) (g3 : Mv ms L' (tT nl f to (gt L i))) :
 BI n nl ho f to rk c0 M' L' (O ++ [tO f (gt L i)]) (P ++ [tP nl ho f rk (gt L i)]) (Ms ++ [ms]) (i + 1) := by
 have hk := h.keys _ (Q43 h.i0 hi)
 obtain ⟨t1, t2, t3, t4⟩ := tT_ok p hn hk
 obtain ⟨xs, hxs, hxl, hxm⟩ := g2
 have g2 : Ext L L' (tT nl f to (gt L i)) := ⟨xs, hxs, hxl, hxm⟩
 have i0 := h.i0
 have l1 := h.l1
 have old : ∀ j, 0 ≤ j → j < (L.length : Int) → gt L' j = gt L j := fun j j0 j1 => (g2.gt j0 j1).1
 have hll : L'.length = L.length + xs.length := by rw [hxs, List.length_append]
 refine ⟨g1, by rw [old 0 (Int.le_refl 0) (by omega)]; exact h.first, by omega, by omega, by omega, by omega, by omega, by have := h.lO; simp; omega, by have := h.lP; simp; omega, by have := h.lM; simp; omega, fun k hk' => ?_, fun j j0 j1 => ?_, fun j j0 j1 => ?_, fun j j0 j1 => ?_, fun j j0 j1 => ?_, fun Cl c1 c2 k hk' => ?_⟩
 ·rw [hxs] at hk'
  exact (List.mem_append.1 hk').elim (h.keys k) (fun hm => t1 k (hxm k hm))
 ·rw [Q204 h.lO j0 j1, old j j0 (by omega)]
  split
  ·exact h.own j j0 (by omega)
  ·rw [show j = i by omega]
 ·rw [Q204 h.lP j0 j1, old j j0 (by omega)]
  split
  ·exact h.pri j j0 (by omega)
  ·rw [show j = i by omega]
 ·rw [Q204 h.lM j0 j1, old j j0 (by omega)]
  split
  ·exact (h.mv j j0 (by omega)).ext g2
  ·rw [show j = i by omega]; exact g3
 ·by_cases hj : j < (L.length : Int)
  ·obtain ⟨q, q0, q1, q2, q3⟩ := h.reach j j0 hj
   exact ⟨q, q0, q1, by omega, by rw [old j (by omega) hj, old q q0 (by omega)]; exact q3⟩
  ·refine ⟨i, i0, by omega, by omega, ?_⟩
   rw [old i i0 hi]
   refine hxm _ ?_
   rw [hxs]
   have : gt (L ++ xs) j = gt xs (j - (L.length : Int)) := by
    have h3 := Q98 (xs := L ++ xs) (i := j) (by omega) (by rw [List.length_append]; omega)
    have h4 := Q98 (xs := xs) (i := j - (L.length : Int)) (by omega) (by omega)
    rw [List.getElem?_append_right (by omega)] at h3
    rw [show j.toNat - L.length = (j - (L.length : Int)).toNat by omega, h4] at h3
    exact (Option.some.inj h3).symm
   rw [this]
   exact Q43 (by omega) (by omega)
 ·rw [hxs] at hk'
  rcases List.mem_append.1 hk' with hm | hm
  ·exact h.clo Cl c1 c2 k hm
  ·exact c2 _ (h.clo Cl c1 c2 _ (Q43 i0 hi)) k (hxm k hm)
end
structure Brd (n : Int) (nl : Int → Bs → List Int) (ho : Bs → Int → Bool) (f : List Q0) (to rk : List Int) (c0 : Q2) (K : List Q2) (Ms : List (List Int)) (P O : List Int) : Prop where
 nd : K.Nodup
 first : gt K 0 = c0
 l1 : 1 ≤ K.length
 l2 : K.length ≤ 200
 lO : O.length = K.length
 lP : P.length = K.length
 lM : Ms.length = K.length
 keys : ∀ k ∈ K, Ky n f k
 own : ∀ j, 0 ≤ j → j < (K.length : Int) → gt O j = tO f (gt K j)
 pri : ∀ j, 0 ≤ j → j < (K.length : Int) → gt P j = tP nl ho f rk (gt K j)
 mv : ∀ j, 0 ≤ j → j < (K.length : Int) → Mv (gt Ms j) K (tT nl f to (gt K j))
 reach : ∀ j, 0 < j → j < (K.length : Int) → ∃ q, 0 ≤ q ∧ q < j ∧ gt K j ∈ tT nl f to (gt K q)
 clo : ∀ Cl : Q2 → Prop, Cl c0 → (∀ k, Cl k → ∀ t ∈ tT nl f to k, Cl t) → ∀ k ∈ K, Cl k
theorem BI.brd {n : Int} {nl : Int → Bs → List Int} {ho : Bs → Int → Bool} {f : List Q0} {to rk : List Int} {c0 : Q2} {M : List (Q2 × Int)} {L : List Q2} {O P : List Int} {Ms : List (List Int)} {i : Int} (h : BI n nl ho f to rk c0 M L O P Ms i) (hi : ¬ i < (L.length : Int)) : Brd n nl ho f to rk c0 L Ms P O := by
 have e : i = (L.length : Int) := by have := h.i1; omega
 subst e
 exact ⟨h.ki.nd, h.first, h.l1, by have := h.i2; omega, by have := h.lO; omega, by have := h.lP; omega, by have := h.lM; omega, h.keys, h.own, h.pri, h.mv, fun j j0 j1 => by obtain ⟨q, a, b, _, c⟩ := h.reach j j0 j1; exact ⟨q, a, b, c⟩, h.clo⟩
section
variable {n : Int} {x : List Bs} {y : List Q3} {z : List Q5} {next : List (Q9 × Q4)} {holds : List (Bs × Q4)} {f : List Q0} {to rk w : List Int}
structure Fo (f : List Q0) (to w rk : List Int) : Prop where
 is : Q53.f f = some true
 po : Po f to
 fr : Q29.f f = some w
 rn : Q27.f f = some rk
 lw : w.length = f.length
 lr : rk.length = f.length
 wv : ∀ m, 0 ≤ m → m < (f.length : Int) → (gt f m).Kind = 4 → gt w m = Wd (BitVec.twoPow 64 (gt to m).toNat) ∧ m < gt to m ∧ gt to m < (f.length : Int) ∧ Fixy (gt f (gt to m)).Kind
theorem Q291 (f : List Q0) (hs : ∀ n ∈ f, (n.Name.length : Int) ≤ 9223372036854775807) (hz : (0 + f.length) * 48 ≤ 140737488355328) : Q53.f f = some false ∨ ∃ to w rk, Fo f to w rk := by
 rcases is_run f hs hz with h | ⟨h, to, hb, p⟩
 ·exact .inl h
 ·obtain ⟨w, h1, h2, h3, h4⟩ := free_run p hb h
  obtain ⟨rk, h5, h6⟩ := ranks_run p.n1 h1 h2 h3
  exact .inr ⟨to, w, rk, h, p, h1, h5, h2, h6, h4⟩
theorem Q179 (R : RightS n x y z) (hx : Nx x y next) (hh : Hx z holds) (F : Fo f to w rk) {c0 : Q2} {M : List (Q2 × Int)} {L : List Q2} {O P : List Int} {Ms : List (List Int)} {i : Int} (h : BI n (nxl hx) (hol hh) f to rk c0 M L O P Ms i) :
 (Q20.l0b n holds next f w rk M L O P Ms i = some (.inr (.inl (M, L, O, P, Ms))) ∧ ¬ i < (L.length : Int)) ∨ (Q20.l0b n holds next f w rk M L O P Ms i = some (.inr (.inr ([], [], [], [], 18))) ∧ 200 < L.length) ∨
 ∃ M' L' ms, Q20.l0b n holds next f w rk M L O P Ms i = some (.inl (M', L', O ++ [tO f (gt L i)], P ++ [tP (nxl hx) (hol hh) f rk (gt L i)], Ms ++ [ms], i + 1)) ∧ i < 200 ∧ Q17.f n holds next f w rk M L O P Ms (tO f (gt L i)) (tP (nxl hx) (hol hh) f rk (gt L i)) (tT (nxl hx) f to (gt L i)) = some (Ms ++ [ms], P ++ [tP (nxl hx) (hol hh) f rk (gt L i)], O ++ [tO f (gt L i)], M', L') ∧ i < (L.length : Int) ∧ L.length ≤ 200 ∧ BI n (nxl hx) (hol hh) f to rk c0 M' L' (O ++ [tO f (gt L i)]) (P ++ [tP (nxl hx) (hol hh) f rk (gt L i)]) (Ms ++ [ms]) (i + 1) := by
 have i0 := h.i0
 have i2 := h.i2
 have l5 := h.l5
 unfold Q20.l0b
 by_cases hi : i < (L.length : Int)
 ·right
  rw [if_pos hi]
  by_cases h2 : (200 : Int) < (L.length : Int)
  ·left
   rw [if_pos h2]
   exact ⟨rfl, by omega⟩
  ·right
   have lO := h.lO
   have lP := h.lP
   have lM := h.lM
   obtain ⟨ms, M', L', hp, hlay, g1, g2, g3⟩ := pair_run (O := O) (P := P) (Ms := Ms) R hx hh F.po F.lr F.lw (fun m m0 m1 mk => (F.wv m m0 m1 mk).1) h.ki (by omega) (by omega) (by omega) (by omega) (h.keys _ (Q43 i0 hi))
   rw [if_neg h2, if_pos ⟨i0, hi⟩, hp, Option.bind_some, wrap64 (x := i + 1) (by omega) (by omega)]
   exact ⟨M', L', ms, rfl, by omega, hlay, hi, by omega, h.step F.po (nxl_ok R hx) hi (by omega) g1 g2 g3⟩
 ·left
  rw [if_neg hi]
  exact ⟨rfl, hi⟩
theorem first_run (R : RightS n x y z) (hx : Nx x y next) (hh : Hx z holds) (F : Fo f to w rk) {a : Int} (a0 : 0 ≤ a) (a1 : a < n) :
 ∃ M, Q79.f n holds next f w rk [] [] [] [] [] a (IntKind.i64.wrap ((f.length : Int) - 1)) = some (M, [⟨a, (f.length : Int) - 1⟩], 0) ∧ BI n (nxl hx) (hol hh) f to rk ⟨a, (f.length : Int) - 1⟩ M [⟨a, (f.length : Int) - 1⟩] [] [] [] 0 := by
 have p0 := F.po.n0
 have p1 := F.po.n1
 rw [wrap64 (x := (f.length : Int) - 1) (by omega) (by omega)]
 obtain ⟨M', L', i, h1, h2, h3, h4, h5, xs, h6, h7, h8⟩ := Q297 (n := n) (ho := holds) (ne := next) (f := f) (fr := w) (rk := rk) (O := []) (P := []) (Ms := []) KI.nil (by simp) ⟨a, (f.length : Int) - 1⟩
 rw [List.nil_append] at h6
 subst h6
 have hL : L' = [⟨a, (f.length : Int) - 1⟩] := by
  match L', h7, h8 with
  | [], _, _ => simp at h4; omega
  | [k], _, h8 => rw [List.mem_singleton.1 (h8 k (by simp))]
  | _ :: _ :: _, h7, _ => simp at h7
 subst hL
 have : i = 0 := by simp at h4; omega
 subst this
 refine ⟨M', h1, h2, rfl, by simp, by simp, Int.le_refl 0, by simp, by omega, rfl, rfl, rfl, fun k hk => ?_, fun j j0 j1 => by omega, fun j j0 j1 => by omega, fun j j0 j1 => by omega, fun j j0 j1 => by simp at j1; omega, fun Cl c1 _ k hk => by rw [List.mem_singleton.1 hk]; exact c1⟩
 rw [List.mem_singleton.1 hk]
 exact ⟨⟨a0, a1⟩, by dsimp only; omega, by dsimp only; omega⟩
theorem Q220 (R : RightS n x y z) (hx : Nx x y next) (hh : Hx z holds) (F : Fo f to w rk) {a : Int} (a0 : 0 ≤ a) (a1 : a < n) :
 ∃ M, BI n (nxl hx) (hol hh) f to rk ⟨a, (f.length : Int) - 1⟩ M [⟨a, (f.length : Int) - 1⟩] [] [] [] 0 ∧ Q79.f n holds next f w rk [] [] [] [] [] a (IntKind.i64.wrap ((f.length : Int) - 1)) = some (M, [⟨a, (f.length : Int) - 1⟩], 0) ∧
  Q20.f n holds next f a = jn (Q20.l0 n holds next f w rk M [⟨a, (f.length : Int) - 1⟩] [] [] [] 0) (fun s_ => some (s_.2.1, s_.2.2.2.2, s_.2.2.2.1, s_.2.2.1, 0)) := by
 obtain ⟨M, h1, h2⟩ := first_run R hx hh F a0 a1
 refine ⟨M, h2, h1, ?_⟩
 unfold Q20.f Q127.f
 rw [F.is, Option.bind_some]
 simp only [decide_eq_false (show ¬ a < 0 by omega), decide_eq_false (show ¬ n ≤ a by omega), if_true, Q12, Bool.false_eq_true, if_false, Option.bind_some, F.fr, F.rn, h1]
theorem Q273 {n : Int} {holds : List (Bs × Q4)} {next : List (Q9 × Q4)} {f : List Q0} {a : Int} (hs : ∀ n ∈ f, (n.Name.length : Int) ≤ 9223372036854775807) (hz : (0 + f.length) * 48 ≤ 140737488355328) (h : Q53.f f = some false ∨ a < 0 ∨ n ≤ a) : Q20.f n holds next f a = some ([], [], [], [], 1) := by
 have hf : Q53.f f = some false ∨ Q53.f f = some true := by
  rcases Q291 f hs hz with h | ⟨_, _, _, F⟩
  ·exact .inl h
  ·exact .inr F.is
 unfold Q20.f Q127.f
 rcases hf with hf | hf
 ·rw [hf, Option.bind_some]
  simp only [Bool.false_eq_true, if_false, Q12, if_true]
 ·rw [hf, Option.bind_some]
  by_cases a0 : a < 0
  ·simp only [decide_eq_true a0, if_true, Q12]
  ·have a1 : n ≤ a := by
    rcases h with h | h | h
    ·rw [hf] at h; cases h
    ·exact absurd h a0
    ·exact h
   simp only [decide_eq_false a0, decide_eq_true a1, if_true, Q12, Bool.false_eq_true, if_false, Option.bind_some]
theorem board_run (R : RightS n x y z) (hx : Nx x y next) (hh : Hx z holds) (F : Fo f to w rk) {a : Int} (a0 : 0 ≤ a) (a1 : a < n) :
 (Q20.f n holds next f a = some ([], [], [], [], 18) ∧ ∃ L : List Q2, 200 < L.length ∧ L.Nodup ∧ ∀ Cl : Q2 → Prop, Cl ⟨a, (f.length : Int) - 1⟩ → (∀ k, Cl k → ∀ t ∈ tT (nxl hx) f to k, Cl t) → ∀ k ∈ L, Cl k) ∨
 ∃ K Ms P O, Q20.f n holds next f a = some (K, Ms, P, O, 0) ∧ Brd n (nxl hx) (hol hh) f to rk ⟨a, (f.length : Int) - 1⟩ K Ms P O := by
 obtain ⟨M, hB, _, hf⟩ := Q220 R hx hh F a0 a1
 obtain ⟨r, hr, hq⟩ := Q38 (body := fun t_ : (List (Q2 × Int)) × (List Q2) × (List Int) × (List Int) × (List (List Int)) × Int => Q20.l0b n holds next f w rk t_.1 t_.2.1 t_.2.2.1 t_.2.2.2.1 t_.2.2.2.2.1 t_.2.2.2.2.2)
  (fun t_ => BI n (nxl hx) (hol hh) f to rk ⟨a, (f.length : Int) - 1⟩ t_.1 t_.2.1 t_.2.2.1 t_.2.2.2.1 t_.2.2.2.2.1 t_.2.2.2.2.2)
  (fun r => (r = .inr ([], [], [], [], 18) ∧ ∃ L : List Q2, 200 < L.length ∧ L.Nodup ∧ ∀ Cl : Q2 → Prop, Cl ⟨a, (f.length : Int) - 1⟩ → (∀ k, Cl k → ∀ t ∈ tT (nxl hx) f to k, Cl t) → ∀ k ∈ L, Cl k) ∨
   ∃ M K O P Ms, r = .inl (M, K, O, P, Ms) ∧ Brd n (nxl hx) (hol hh) f to rk ⟨a, (f.length : Int) - 1⟩ K Ms P O) (fun t_ => (200 - t_.2.2.2.2.2).toNat) (fun ⟨M, L, O, P, Ms, i⟩ h => by
   dsimp only at h ⊢
   rcases Q179 R hx hh F h with ⟨e, hi⟩ | ⟨e, h2⟩ | ⟨M', L', ms, e, i2, _, _, _, h'⟩
   ·left
    exact ⟨_, e, .inr ⟨M, L, O, P, Ms, rfl, h.brd hi⟩⟩
   ·left
    exact ⟨_, e, .inl ⟨rfl, L, h2, h.ki.nd, h.clo⟩⟩
   ·right
    have := h.i0
    exact ⟨_, e, h', by dsimp only; omega⟩) (M, [⟨a, (f.length : Int) - 1⟩], [], [], [], 0) hB
 have hr' : Q20.l0 n holds next f w rk M [⟨a, (f.length : Int) - 1⟩] [] [] [] 0 = some r := hr
 rw [hf, hr']
 rcases hq with ⟨rfl, h⟩ | ⟨M, K, O, P, Ms, rfl, h⟩
 ·exact .inl ⟨by rw [jn_inr], h⟩
 ·exact .inr ⟨K, Ms, P, O, by rw [Q12], h⟩
theorem take_run (f : List Q0) (hs : ∀ n ∈ f, (n.Name.length : Int) ≤ 9223372036854775807) (hz : (0 + f.length) * 48 ≤ 140737488355328) (n a : Int) : (Q53.f f = some false ∨ a < 0 ∨ n ≤ a) ∨ ∃ to w rk, Fo f to w rk ∧ 0 ≤ a ∧ a < n := by
 rcases Q291 f hs hz with h | ⟨to, w, rk, F⟩
 ·exact .inl (.inl h)
 ·by_cases a0 : a < 0
  ·exact .inl (.inr (.inl a0))
  ·by_cases a1 : n ≤ a
   ·exact .inl (.inr (.inr a1))
   ·exact .inr ⟨to, w, rk, F, by omega, by omega⟩
theorem new_nx (hs : ∀ p ∈ z, (p.States.length : Int) ≤ 9223372036854775807) (R : RightS n x y z) : ∃ holds next, Q16.f n x y z = some (some ⟨n, holds, next⟩) ∧ Nx x y next ∧ Hx z holds := by
 obtain ⟨m0, hm0, hh⟩ := holds_run z (by have := R.nz; omega) hs (fun i j h0 h1 h2 => rise_ne R.rz h0 h1 h2)
 obtain ⟨m1, hm1, hx⟩ := l1_run n x y (by have := R.ny; omega) R.ed R.n1
 obtain ⟨b, hb, hf⟩ := Q246 n x y z hs
 have hbt : b = true := hf.2 R
 subst hbt
 exact ⟨m0, m1, by unfold Q16.f; rw [hb]; simp [hm0, hm1, jn], hx, hh⟩
end
end Go.Bw
namespace Go.Bw
open Go Go.RowKit Go.Proofs
variable {R : Res} {Fr : List HProp} {A0 A1 A0_0 A0_1 A0_2 A1_0 A1_1 A1_2 A0_3 A1_3 : Option Addr} {n0 c0 n1 c1 n0_0 c0_0 n0_1 c0_1 n0_2 c0_2 n1_0 c1_0 n1_1 c1_1 n1_2 c1_2 n0_3 c0_3 n1_3 c1_3 : Nat}
noncomputable def Q37.l0b (a0 a1 : List Int) (p : Int) : Option ((Int) ⊕ ((Unit) ⊕ (Bool))) :=
 if p < (a0.length : Int) then
 if (0 : Int) ≤ p ∧ p < (a0.length : Int) then
 if (0 : Int) ≤ p ∧ p < (a1.length : Int) then
 if gt a0 p = gt a1 p then
 nx (IntKind.i64.wrap (p + 1))
 else
 upL (some false)
 else none
 else none
 else
 dn (.inl ())
noncomputable def Q37.l0 (a0 a1 : List Int) (p : Int) : Option ((Unit) ⊕ (Bool)) := iter (fun t_ : Int => Q37.l0b a0 a1 t_) p
noncomputable def Q37.f (a0 a1 : List Int) : Option Bool :=
 if (a0.length : Int) = (a1.length : Int) then
 jn (Q37.l0 a0 a1 0) (fun (_ : Unit) =>
 some true)
 else
 some false
theorem Q37.callee : Callee Tryz.prog 107 := ⟨_, Tryz.func107, by kernel_rfl, by kernel_rfl⟩
theorem Q37.spec {a0 a1 : List Int} (hr0 : RdS (Fl.int .i64).rep R.heap A0 a0) (hn0 : a0.length = n0) (hc0 : n0 ≤ c0) (hr1 : RdS (Fl.int .i64).rep R.heap A1 a1) (hn1 : a1.length = n1) (hc1 : n1 ≤ c1) {r : Bool} (j : Q37.f a0 a1 = some r) :
 Spec Tryz.prog 107 [.slice A0 n0 c0, .slice A1 n1 c1] R (Fr) (fun v l' => v = .bool r ∧ Fr = l') := by
 subst hn0; subst hn1; refine Spec.of Tryz.func107 rfl rfl ?_; unfold Q37.f at j; have j := brun j; refine sR 1 rfl (nT (At.seq (At.seq (At.region ?_)))); refine At.run 5 rfl (nT ?_); rcases bite j with ⟨E, j⟩ | ⟨E, j⟩
 ··refine At.condF rfl (nf (decide_eq_true E)) ?_
   refine At.skip (At.thn (At.seq (sR 1 rfl (nT ?_)))); refine At.block ?_; obtain ⟨a2, a3, a4, j⟩ := bjoin j; obtain ⟨V, G, Z⟩ := bsome j; clear j; unfold Q37.l0 at G; obtain ⟨I, u⟩ := Q15.1 G; clear G; refine At.loopJ (X := Int) (Y := Unit) (e0 := 0) (fun p => [(0, .slice A0 a0.length c0), (1, .slice A1 a1.length c1), (5, i6 p)]) (fun p => Fr) (fun m_ => fun p => iterN (fun t_ : Int => Q37.l0b a0 a1 t_) m_ p = some V) I 0 u (fun _ => []) (fun _ => Fr) (fun _ => a2 (.inl ()) = some r) (fun a w e hs => ⟨e.sub ⟨rfl, rfl, rfl, trivial⟩, (by exact hs)⟩) ?_ (fun a5 => ?_)
   ·rintro _ j; have j := (a3 _).symm.trans j
    ·refine At.ibx ?_; refine At.thn (sR 1 rfl (nT (At.ret ?_))); cases bret j; exact At.res (.inl rfl) rfl rfl ⟨rfl, rfl⟩
   ·clear u I; rintro I p u; obtain ⟨a6, f_, a7, hf_, j⟩ := bit u; clear u; have j : (Q37.l0b a0 a1 p).bind _ = some V := j; unfold Q37.l0b at j
    ·refine At.seq (sR 4 rfl (nT ?_)); rcases bite j with ⟨J, j⟩ | ⟨J, j⟩
     ··refine At.condT rfl (decide_eq_true J) ?_
       refine At.skip (At.thn (At.seq ?_)); refine At.block ?_; refine At.seq ?_; refine At.quiet (by kernel_rfl) ?_; refine At.Quiet.run 2 rfl ?_; obtain ⟨C, j⟩ := bnone j; refine At.Quiet.y (Y.ixRd hr0 rfl rfl rfl rfl rfl rfl rfl C.1 C.2) rfl rfl rfl ?_; refine At.Quiet.y (Y.ldFl hr0 rfl (q := 0) rfl rfl C.1 C.2 rfl rfl rfl) rfl rfl rfl ?_; refine At.Quiet.run 2 rfl ?_; obtain ⟨D, j⟩ := bnone j; refine At.Quiet.y (Y.ixRd hr1 rfl rfl rfl rfl rfl rfl rfl D.1 D.2) rfl rfl rfl ?_; refine At.Quiet.y (Y.ldFl hr1 rfl (q := 0) rfl rfl D.1 D.2 rfl rfl rfl) rfl rfl rfl ?_; refine At.Quiet.run 1 rfl (At.Quiet.nil (At.thn ?_)); rcases bite j with ⟨U, j⟩ | ⟨U, j⟩
       ··refine At.condF rfl (nf (decide_eq_true U)) ?_
         refine At.skip ?_; refine At.ibn ?_; refine At.thn (At.region (At.run 3 rfl (At.nil ?_))); have j := bnx hf_ j; exact fun a w e hs => ⟨a6, (IntKind.i64.wrap (p + 1)), a7, j, e.sub ⟨rfl, rfl, rfl, trivial⟩, hs⟩
       ··refine At.condT rfl (nt (decide_eq_false U)) ?_
         refine sR 1 rfl (nT (At.ret ?_)); refine At.ibr ?_; refine At.thr ?_; have j := bupL a4 Z j; refine At.thr ?_; refine At.ibr ?_; refine At.thr ?_; cases bret j; exact At.res (.inl rfl) rfl rfl ⟨rfl, rfl⟩
     ··refine At.condF rfl (decide_eq_false J) ?_
       refine At.exit ?_; refine At.the ?_; refine At.the ?_; exact fun a w e hs => a5 () (bdn j Z) a w (e.sub trivial) hs
 ··refine At.condT rfl (nt (decide_eq_false E)) ?_
   refine sR 1 rfl (nT (At.ret (At.thr ?_))); cases bret j; exact At.res (.inl rfl) rfl rfl ⟨rfl, rfl⟩

noncomputable def Q71.l0b (q : List (List Int)) (u : List (List Int)) (p : Int) : Option ((Int) ⊕ ((Unit) ⊕ (Bool))) :=
 if p < (q.length : Int) then
 if (0 : Int) ≤ p ∧ p < (q.length : Int) then
 if (0 : Int) ≤ p ∧ p < (u.length : Int) then
 (Q37.f (gt q p) (gt u p)).bind fun C =>
 if C = true then
 nx (IntKind.i64.wrap (p + 1))
 else
 upL (some false)
 else none
 else none
 else
 dn (.inl ())
noncomputable def Q71.l0 (p : List (List Int)) (q : List (List Int)) (u : Int) : Option ((Unit) ⊕ (Bool)) := iter (fun t_ : Int => Q71.l0b p q t_) u
noncomputable def Q71.f (u C : List Int) (p : List (List Int)) (D E : List Int) (q : List (List Int)) : Option Bool :=
 (Q37.f u D).bind fun G =>
 (Q37.f C E).bind fun I =>
 jn (
 if G = true then
 some (.inl (!I))
 else
 some (.inl true)) (fun (J : Bool) =>
 jn (
 if J = true then
 some (.inl true)
 else
 some (.inl (!(decide ((p.length : Int) = (q.length : Int)))))) (fun (U : Bool) =>
 if U = true then
 some false
 else
 jn (Q71.l0 p q 0) (fun (_ : Unit) =>
 some true)))
theorem Q71.callee : Callee Tryz.prog 51 := ⟨_, Tryz.func51, by kernel_rfl, by kernel_rfl⟩
theorem Q71.spec {C D E G : List Int} {p q : List (List Int)} (hr0_0 : RdS (Fl.int .i64).rep R.heap A0_0 C) (hn0_0 : C.length = n0_0) (hc0_0 : n0_0 ≤ c0_0) (hr0_1 : RdS (Fl.int .i64).rep R.heap A0_1 D) (hn0_1 : D.length = n0_1) (hc0_1 : n0_1 ≤ c0_1) (hr0_2 : RdS ((Fl.int .i64).rep).slice R.heap A0_2 p) (hn0_2 : p.length = n0_2) (hc0_2 : n0_2 ≤ c0_2) (hr1_0 : RdS (Fl.int .i64).rep R.heap A1_0 E) (hn1_0 : E.length = n1_0) (hc1_0 : n1_0 ≤ c1_0) (hr1_1 : RdS (Fl.int .i64).rep R.heap A1_1 G) (hn1_1 : G.length = n1_1) (hc1_1 : n1_1 ≤ c1_1) (hr1_2 : RdS ((Fl.int .i64).rep).slice R.heap A1_2 q) (hn1_2 : q.length = n1_2) (hc1_2 : n1_2 ≤ c1_2) {r : Bool} (j : Q71.f C D p E G q = some r) :
 Spec Tryz.prog 51 [.agg #[.slice A0_0 n0_0 c0_0, .slice A0_1 n0_1 c0_1, .slice A0_2 n0_2 c0_2], .agg #[.slice A1_0 n1_0 c1_0, .slice A1_1 n1_1 c1_1, .slice A1_2 n1_2 c1_2]] R (Fr) (fun v l' => v = .bool r ∧ Fr = l') := by
 subst hn0_0; subst hn0_1; subst hn0_2; subst hn1_0; subst hn1_1; subst hn1_2; refine Spec.of Tryz.func51 rfl rfl ?_; unfold Q71.f at j; have j := brun j; refine At.seq (At.region ?_); refine At.box rfl rfl (cs := [.slice A0_0 C.length c0_0, .slice A0_1 D.length c0_1, .slice A0_2 p.length c0_2]) rfl rfl (fun V => ?_); refine At.box rfl rfl (cs := [.slice A1_0 E.length c1_0, .slice A1_1 G.length c1_1, .slice A1_2 q.length c1_2]) rfl rfl (fun Z => ?_); refine At.run 1 rfl (nT (sR 1 rfl (At.y (Y.load rfl rfl (.s .z) rfl rfl rfl) rfl rfl rfl (At.run 1 rfl ?_)))); refine At.y (Y.load rfl rfl .z rfl rfl rfl) rfl rfl rfl ?_; obtain ⟨d9, b5, j⟩ := bbind j; refine At.call rfl Q37.callee rfl rfl rfl (Q37.spec hr0_0 rfl hc0_0 hr1_0 rfl hc1_0 b5) ?_; rintro _ _ ⟨rfl, rfl⟩; refine At.run 1 rfl (nT (sR 1 rfl (At.y (Y.load rfl rfl (.s .z) rfl rfl rfl) rfl rfl rfl (At.run 1 rfl ?_)))); refine At.y (Y.load rfl rfl .z rfl rfl rfl) rfl rfl rfl ?_; obtain ⟨b6, b7, j⟩ := bbind j; refine At.call rfl Q37.callee rfl rfl rfl (Q37.spec hr0_1 rfl hc0_1 hr1_1 rfl hc1_1 b7) ?_; rintro _ _ ⟨rfl, rfl⟩; refine At.run 1 rfl (nT (At.seq (sR 3 rfl ?_))); obtain ⟨b8, b9, e1, j⟩ := bjoin j; let T1 : HProp := pc Z [.slice A1_0 E.length c1_0, .slice A1_1 G.length c1_1, .slice A1_2 q.length c1_2] 56; let T2 : HProp := pc V [.slice A0_0 C.length c0_0, .slice A0_1 D.length c0_1, .slice A0_2 p.length c0_2] 56; refine At.joinO 3 (X := Bool) (fun I => [(2, bp V), (3, bp Z), (24, .bool I)]) (fun I => T1 :: T2 :: Fr) (fun I => b8 (.inl I) = some r) ?_ (fun a9 => ?_)
 ·rintro I j; have j := (b9 _).symm.trans j
  ·refine At.run 1 rfl ?_; obtain ⟨c4, c5, e2, j⟩ := bjoin j; refine At.joinO 8 (X := Bool) (fun J => [(2, bp V), (3, bp Z), (33, .bool J)]) (fun J => T1 :: T2 :: Fr) (fun J => c4 (.inl J) = some r) ?_ (fun b2 => ?_)
   ·rintro J j; have j := (c5 _).symm.trans j
    ·refine nT ?_; rcases bite j with ⟨a2, j⟩ | ⟨a2, j⟩
     ··refine At.condT rfl a2 ?_
       refine sR 1 rfl (nT (At.ret (At.thr (At.drop .z ?_)))); refine At.drop .z ?_; cases bret j; exact At.res (.inl rfl) rfl rfl ⟨rfl, rfl⟩
     ··refine At.condF rfl (bn a2) ?_
       refine At.skip (At.thn (At.seq (sR 1 rfl (nT ?_)))); refine At.block ?_; obtain ⟨c6, c7, c8, j⟩ := bjoin j; obtain ⟨b3, a3, b4⟩ := bsome j; clear j; unfold Q71.l0 at a3; obtain ⟨a4, U⟩ := Q15.1 a3; clear a3; refine At.loopJ (X := Int) (Y := Unit) (e0 := 0) (fun u => [(2, bp V), (3, bp Z), (7, i6 u)]) (fun u => T1 :: T2 :: Fr) (fun m_ => fun u => iterN (fun t_ : Int => Q71.l0b p q t_) m_ u = some b3) a4 0 U (fun _ => []) (fun _ => T1 :: T2 :: Fr) (fun _ => c6 (.inl ()) = some r) (fun a w e hs => ⟨e.sub ⟨rfl, rfl, rfl, trivial⟩, (by exact hs)⟩) ?_ (fun c9 => ?_)
       ·rintro _ j; have j := (c7 _).symm.trans j
        ·refine At.ibx ?_; refine At.thn (sR 1 rfl (nT (At.ret (At.drop .z ?_)))); refine At.drop .z ?_; cases bret j; exact At.res (.inl rfl) rfl rfl ⟨rfl, rfl⟩
       ·clear U a4; rintro a4 u U; obtain ⟨d0, f_, d1, hf_, j⟩ := bit U; clear U; have j : (Q71.l0b p q u).bind _ = some b3 := j; unfold Q71.l0b at j
        ·refine At.seq (sR 2 rfl (At.y (Y.load rfl rfl (.s .z) rfl rfl rfl) rfl rfl rfl (At.run 2 rfl (nT ?_)))); rcases bite j with ⟨a5, j⟩ | ⟨a5, j⟩
         ··refine At.condT rfl (decide_eq_true a5) ?_
           refine At.skip (At.thn (At.seq ?_)); refine At.block ?_; refine At.seq ?_; refine At.quiet (by kernel_rfl) ?_; refine At.Quiet.run 1 rfl ?_; refine At.Quiet.y (Y.load rfl rfl (.s .z) rfl rfl rfl) rfl rfl rfl ?_; refine At.Quiet.run 1 rfl ?_; obtain ⟨a0, j⟩ := bnone j; refine At.Quiet.y (Y.ixRd hr0_2 rfl rfl rfl rfl rfl rfl rfl a0.1 a0.2) rfl rfl rfl ?_; obtain ⟨e3, e4, d2, d3, d4⟩ := RdS.rowAt (P := Tryz.prog) hr0_2 (Sub.refl _) rfl a0.1 a0.2; refine At.Quiet.y (d4 rfl rfl rfl rfl) rfl rfl rfl ?_; refine At.Quiet.run 1 rfl ?_; refine At.Quiet.y (Y.load rfl rfl .z rfl rfl rfl) rfl rfl rfl ?_; refine At.Quiet.run 1 rfl ?_; obtain ⟨a1, j⟩ := bnone j; refine At.Quiet.y (Y.ixRd hr1_2 rfl rfl rfl rfl rfl rfl rfl a1.1 a1.2) rfl rfl rfl ?_; obtain ⟨e5, e6, d5, d6, d7⟩ := RdS.rowAt (P := Tryz.prog) hr1_2 (Sub.refl _) rfl a1.1 a1.2; refine At.Quiet.y (d7 rfl rfl rfl rfl) rfl rfl rfl ?_; obtain ⟨e7, d8, j⟩ := bbind j; refine At.Quiet.call rfl Q37.callee rfl rfl rfl (Q37.spec d3 rfl d2 d6 rfl d5 d8) (fun _ _ h_ => ⟨h_.1, fun _ hs => h_.2 ▸ hs⟩) ?_; refine At.Quiet.run 1 rfl (At.Quiet.nil (At.thn (sR 2 rfl (nT ?_)))); rcases bite j with ⟨a6, j⟩ | ⟨a6, j⟩
           ··refine At.condF rfl (nf a6) ?_
             refine At.skip ?_; refine At.ibn ?_; refine At.thn (At.region (At.run 3 rfl (At.nil ?_))); have j := bnx hf_ j; exact fun a w e hs => ⟨d0, (IntKind.i64.wrap (u + 1)), d1, j, e.sub ⟨rfl, rfl, rfl, trivial⟩, hs⟩
           ··refine At.condT rfl (nt (bn a6)) ?_
             refine sR 1 rfl (nT (At.ret ?_)); refine At.ibr ?_; refine At.thr ?_; have j := bupL c8 b4 j; refine At.thr ?_; refine At.ibr ?_; refine At.thr (At.drop .z (At.drop .z ?_)); cases bret j; exact At.res (.inl rfl) rfl rfl ⟨rfl, rfl⟩
         ··refine At.condF rfl (decide_eq_false a5) ?_
           refine At.exit ?_; refine At.the ?_; refine At.the ?_; exact fun a w e hs => c9 () (bdn j b4) a w (e.sub trivial) hs
   ··rcases bite j with ⟨a7, j⟩ | ⟨a7, j⟩
     ··refine At.know (t := 25) rfl a7 ?_
       refine At.run 8 rfl ?_; exact At.of (b2 true j) ⟨rfl, rfl, rfl, trivial⟩
     ··refine At.know (t := 25) rfl (bn a7) ?_
       refine At.run 1 rfl (At.y (Y.load rfl rfl (.s .z) rfl rfl rfl) rfl rfl rfl (At.run 2 rfl (At.y (Y.load rfl rfl .z rfl rfl rfl) rfl rfl rfl (At.run 3 rfl ?_)))); exact At.of (b2 (!(decide ((p.length : Int) = (q.length : Int)))) j) ⟨rfl, rfl, rfl, trivial⟩
 ··rcases bite j with ⟨a8, j⟩ | ⟨a8, j⟩
   ··refine At.know (t := 21) rfl (nf a8) ?_
     refine At.run 3 rfl ?_; exact At.of (a9 (!b6) j) ⟨rfl, rfl, rfl, trivial⟩
   ··refine At.know (t := 21) rfl (nt (bn a8)) ?_
     refine At.run 3 rfl ?_; exact At.of (a9 true j) ⟨rfl, rfl, rfl, trivial⟩

noncomputable def Q51.l0b (q u : List Q2) (p : Int) : Option ((Int) ⊕ ((Unit) ⊕ (Bool))) :=
 if p < (q.length : Int) then
 if (0 : Int) ≤ p ∧ p < (q.length : Int) then
 if (0 : Int) ≤ p ∧ p < (u.length : Int) then
 if (decide ((gt q p).State = (gt u p).State) && (decide ((gt q p).Node = (gt u p).Node) && true)) = true then
 nx (IntKind.i64.wrap (p + 1))
 else
 upL (some false)
 else none
 else none
 else
 dn (.inl ())
noncomputable def Q51.l0 (p q : List Q2) (u : Int) : Option ((Unit) ⊕ (Bool)) := iter (fun t_ : Int => Q51.l0b p q t_) u
noncomputable def Q51.f (u C : List Int) (D : List (List Int)) (p : List Q2) (E G : List Int) (I : List (List Int)) (q : List Q2) : Option Bool :=
 if (p.length : Int) = (q.length : Int) then
 jn (Q51.l0 p q 0) (fun (_ : Unit) =>
 (Q71.f u C D E G I).bind fun J =>
 some J)
 else
 some false
theorem Q51.callee : Callee Tryz.prog 25 := ⟨_, Tryz.func25, by kernel_rfl, by kernel_rfl⟩
theorem Q51.spec {D E G I : List Int} {J U : List (List Int)} {u C : List Q2} (hr0_0 : RdS (Fl.int .i64).rep R.heap A0_0 D) (hn0_0 : D.length = n0_0) (hc0_0 : n0_0 ≤ c0_0) (hr0_1 : RdS (Fl.int .i64).rep R.heap A0_1 E) (hn0_1 : E.length = n0_1) (hc0_1 : n0_1 ≤ c0_1) (hr0_2 : RdS ((Fl.int .i64).rep).slice R.heap A0_2 J) (hn0_2 : J.length = n0_2) (hc0_2 : n0_2 ≤ c0_2) (hr0_3 : RdS Q2.fl.rep R.heap A0_3 u) (hn0_3 : u.length = n0_3) (hc0_3 : n0_3 ≤ c0_3) (hr1_0 : RdS (Fl.int .i64).rep R.heap A1_0 G) (hn1_0 : G.length = n1_0) (hc1_0 : n1_0 ≤ c1_0) (hr1_1 : RdS (Fl.int .i64).rep R.heap A1_1 I) (hn1_1 : I.length = n1_1) (hc1_1 : n1_1 ≤ c1_1) (hr1_2 : RdS ((Fl.int .i64).rep).slice R.heap A1_2 U) (hn1_2 : U.length = n1_2) (hc1_2 : n1_2 ≤ c1_2) (hr1_3 : RdS Q2.fl.rep R.heap A1_3 C) (hn1_3 : C.length = n1_3) (hc1_3 : n1_3 ≤ c1_3) {r : Bool} (j : Q51.f D E J u G I U C = some r) :
 Spec Tryz.prog 25 [.agg #[.slice A0_0 n0_0 c0_0, .slice A0_1 n0_1 c0_1, .slice A0_2 n0_2 c0_2, .slice A0_3 n0_3 c0_3], .agg #[.slice A1_0 n1_0 c1_0, .slice A1_1 n1_1 c1_1, .slice A1_2 n1_2 c1_2, .slice A1_3 n1_3 c1_3]] R (Fr) (fun v l' => v = .bool r ∧ Fr = l') := by
 subst hn0_0; subst hn0_1; subst hn0_2; subst hn0_3; subst hn1_0; subst hn1_1; subst hn1_2; subst hn1_3; refine Spec.of Tryz.func25 rfl rfl ?_; unfold Q51.f at j; have j := brun j; refine At.seq (At.region ?_); refine At.box rfl rfl (cs := [.slice A0_0 D.length c0_0, .slice A0_1 E.length c0_1, .slice A0_2 J.length c0_2, .slice A0_3 u.length c0_3]) rfl rfl (fun a1 => ?_); refine At.box rfl rfl (cs := [.slice A1_0 G.length c1_0, .slice A1_1 I.length c1_1, .slice A1_2 U.length c1_2, .slice A1_3 C.length c1_3]) rfl rfl (fun a2 => ?_); refine At.run 1 rfl (nT (At.seq (sR 1 rfl (At.y (Y.load rfl rfl (.s .z) rfl rfl rfl) rfl rfl rfl ?_)))); refine At.run 2 rfl (At.y (Y.load rfl rfl .z rfl rfl rfl) rfl rfl rfl (At.run 2 rfl (nT ?_))); rcases bite j with ⟨a3, j⟩ | ⟨a3, j⟩
 ··refine At.condF rfl (nf (decide_eq_true a3)) ?_
   refine At.skip (At.thn (At.seq (sR 1 rfl (nT ?_)))); refine At.block ?_; obtain ⟨b2, b3, b4, j⟩ := bjoin j; obtain ⟨a8, a4, a9⟩ := bsome j; clear j; unfold Q51.l0 at a4; obtain ⟨a5, V⟩ := Q15.1 a4; clear a4; let T3 : HProp := pc a2 [.slice A1_0 G.length c1_0, .slice A1_1 I.length c1_1, .slice A1_2 U.length c1_2, .slice A1_3 C.length c1_3] 59; let T4 : HProp := pc a1 [.slice A0_0 D.length c0_0, .slice A0_1 E.length c0_1, .slice A0_2 J.length c0_2, .slice A0_3 u.length c0_3] 59; refine At.loopJ (X := Int) (Y := Unit) (e0 := 0) (fun p => [(2, bp a1), (3, bp a2), (5, i6 p)]) (fun p => T3 :: T4 :: Fr) (fun m_ => fun p => iterN (fun t_ : Int => Q51.l0b u C t_) m_ p = some a8) a5 0 V (fun _ => [(2, bp a1), (3, bp a2)]) (fun _ => T3 :: T4 :: Fr) (fun _ => b2 (.inl ()) = some r) (fun a w e hs => ⟨e.sub ⟨rfl, rfl, rfl, trivial⟩, (by exact hs)⟩) ?_ (fun b5 => ?_)
   ·rintro _ j; have j := (b3 _).symm.trans j
    ·refine At.ibx ?_; refine At.thn (sR 1 rfl (At.y (Y.load rfl rfl (.s .z) rfl rfl rfl) rfl rfl rfl (At.run 1 rfl (At.y (Y.load rfl rfl .z rfl rfl rfl) rfl rfl rfl ?_)))); obtain ⟨b9, b6, j⟩ := bbind j; refine At.call rfl Q71.callee rfl rfl rfl (Q71.spec hr0_0 rfl hc0_0 hr0_1 rfl hc0_1 hr0_2 rfl hc0_2 hr1_0 rfl hc1_0 hr1_1 rfl hc1_1 hr1_2 rfl hc1_2 b6) ?_; rintro _ _ ⟨rfl, rfl⟩; refine At.run 1 rfl (nT (At.ret (At.drop .z (At.drop .z ?_)))); cases bret j; exact At.res (.inl rfl) rfl rfl ⟨rfl, rfl⟩
   ·clear V a5; rintro a5 p V; obtain ⟨b7, f_, b8, hf_, j⟩ := bit V; clear V; have j : (Q51.l0b u C p).bind _ = some a8 := j; unfold Q51.l0b at j
    ·refine At.seq (sR 2 rfl (At.y (Y.load rfl rfl (.s .z) rfl rfl rfl) rfl rfl rfl (At.run 2 rfl (nT ?_)))); rcases bite j with ⟨a6, j⟩ | ⟨a6, j⟩
     ··refine At.condT rfl (decide_eq_true a6) ?_
       refine At.skip (At.thn (At.seq ?_)); refine At.block ?_; refine At.seq ?_; refine At.quiet (by kernel_rfl) ?_; refine At.Quiet.run 1 rfl ?_; refine At.Quiet.y (Y.load rfl rfl (.s .z) rfl rfl rfl) rfl rfl rfl ?_; refine At.Quiet.run 1 rfl ?_; obtain ⟨Z, j⟩ := bnone j; refine At.Quiet.y (Y.ixRd hr0_3 rfl rfl rfl rfl rfl rfl rfl Z.1 Z.2) rfl rfl rfl ?_; refine At.Quiet.y (Y.ldFl hr0_3 rfl (q := 0) rfl rfl Z.1 Z.2 rfl rfl rfl) rfl rfl rfl ?_; refine At.Quiet.run 1 rfl ?_; refine At.Quiet.y (Y.load rfl rfl .z rfl rfl rfl) rfl rfl rfl ?_; refine At.Quiet.run 1 rfl ?_; obtain ⟨a0, j⟩ := bnone j; refine At.Quiet.y (Y.ixRd hr1_3 rfl rfl rfl rfl rfl rfl rfl a0.1 a0.2) rfl rfl rfl ?_; refine At.Quiet.y (Y.ldFl hr1_3 rfl (q := 0) rfl rfl a0.1 a0.2 rfl rfl rfl) rfl rfl rfl ?_; refine At.Quiet.y (Y.neSt (xs := [i6 ((gt u p).State), i6 ((gt u p).Node)]) (ys := [i6 ((gt C p).State), i6 ((gt C p).Node)]) rfl rfl rfl rfl (by kernel_rfl) (by kernel_rfl) (by kernel_rfl) rfl) rfl rfl rfl ?_; refine At.Quiet.nil (At.thn ?_); rcases bite j with ⟨a7, j⟩ | ⟨a7, j⟩
       ··refine At.condF rfl (nf a7) ?_
         refine At.skip ?_; refine At.ibn ?_; refine At.thn (At.region (At.run 3 rfl (At.nil ?_))); have j := bnx hf_ j; exact fun a w e hs => ⟨b7, (IntKind.i64.wrap (p + 1)), b8, j, e.sub ⟨rfl, rfl, rfl, trivial⟩, hs⟩
       ··refine At.condT rfl (nt (bn a7)) ?_
         refine sR 1 rfl (nT (At.ret ?_)); refine At.ibr ?_; refine At.thr ?_; have j := bupL b4 a9 j; refine At.thr ?_; refine At.ibr ?_; refine At.thr (At.drop .z (At.drop .z ?_)); cases bret j; exact At.res (.inl rfl) rfl rfl ⟨rfl, rfl⟩
     ··refine At.condF rfl (decide_eq_false a6) ?_
       refine At.exit ?_; refine At.the ?_; refine At.the ?_; exact fun a w e hs => b5 () (bdn j a9) a w (e.sub ⟨rfl, rfl, trivial⟩) hs
 ··refine At.condT rfl (nt (decide_eq_false a3)) ?_
   refine sR 1 rfl (nT (At.ret (At.thr (At.drop .z ?_)))); refine At.drop .z ?_; cases bret j; exact At.res (.inl rfl) rfl rfl ⟨rfl, rfl⟩

noncomputable def Q153.f (p : Int) (G : List Bs) (q : List Q3) (I : List Q5) (a1 : List Q0) (a2 : Int) : Option Bool :=
 (Q93.f ).bind fun J =>
 (Q16.f p G q I).bind fun u =>
 jn (
 if J = true then
 some (.inl u.isNone)
 else
 some (.inl true)) (fun (U : Bool) =>
 jn (
 if U = true then
 some (.inl true)
 else
 some (.inl (decide (24 ≤ p)))) (fun (V : Bool) =>
 jn (
 if V = true then
 some (.inl true)
 else
 some (.inl (decide (a2 = p)))) (fun (X : Bool) =>
 jn (
 if X = true then
 some (.inl true)
 else
 some (.inl (decide (200 ≤ (q.length : Int))))) (fun (Z : Bool) =>
 if Z = true then
 some J
 else
 jn (
 if 0 < (G.length : Int) then
 if (([] : List Q3).length + q.length) * 24 ≤ 140737488355328 then
 if ((([] : List Q3) ++ q).length + ([(⟨p, 0, 0⟩ : Q3)] : List Q3).length) * 24 ≤ 140737488355328 then
 some (.inl ((([] : List Q3) ++ q) ++ ([(⟨p, 0, 0⟩ : Q3)] : List Q3)))
 else none
 else none
 else
 some (.inl q)) (fun (a0 : List Q3) =>
 (Q16.f (IntKind.i64.wrap (p + 1)) G a0 I).bind fun E =>
 if E.isNone = true then
 some false
 else
 if u.isNone = false then
 (Q20.f ((u.getD default).states) ((u.getD default).holds) ((u.getD default).next) a1 a2).bind fun C =>
 (Q20.f ((E.getD default).states) ((E.getD default).holds) ((E.getD default).next) a1 a2).bind fun D =>
 (Q51.f C.2.2.2.1 C.2.2.1 C.2.1 C.1 D.2.2.2.1 D.2.2.1 D.2.1 D.1).bind fun a3 =>
 jn (
 if C.2.2.2.2 = D.2.2.2.2 then
 some (.inl a3)
 else
 some (.inl false)) (fun (a4 : Bool) =>
 some a4)
 else none)))))
theorem Q153.spec (R : Res) (Fr : List HProp) (A0_1 : Option Addr) (n0_1 : Nat) (c0_1 : Nat) (A0_2 : Option Addr) (n0_2 : Nat) (c0_2 : Nat) (A0_3 : Option Addr) (n0_3 : Nat) (c0_3 : Nat) (A1 : Option Addr) (n1 : Nat) (c1 : Nat) (p : Int) (E : List Bs) (u : List Q3) (G : List Q5) (a1 : List Q0) (a2 : Int) (hr0_1 : RdS Fl.bs.rep R.heap A0_1 E) (hn0_1 : E.length = n0_1) (hc0_1 : n0_1 ≤ c0_1) (hr0_2 : RdS Q3.fl.rep R.heap A0_2 u) (hn0_2 : u.length = n0_2) (hc0_2 : n0_2 ≤ c0_2) (hr0_3 : RdS Q5.rep R.heap A0_3 G) (hn0_3 : G.length = n0_3) (hc0_3 : n0_3 ≤ c0_3) (hr1 : RdS Q0.fl.rep R.heap A1 a1) (hn1 : a1.length = n1) (hc1 : n1 ≤ c1) (hg0 : RdS (Fl.int .u8).rep R.heap (some ⟨0, 0, none⟩) Tryz.gtab0) {r : Bool} (j : Q153.f p E u G a1 a2 = some r) :
 Spec Tryz.prog 7 [.agg #[i6 p, .slice A0_1 n0_1 c0_1, .slice A0_2 n0_2 c0_2, .slice A0_3 n0_3 c0_3], .slice A1 n1 c1, i6 a2] R (Fr) (fun v l' => v = .bool r ∧ Fr = l') := by
 subst hn0_1; subst hn0_2; subst hn0_3; subst hn1; refine Spec.of Tryz.func7 rfl rfl ?_; unfold Q153.f at j; have j := brun j; refine At.seq (At.region ?_); refine At.box rfl rfl (cs := [i6 p, .slice A0_1 E.length c0_1, .slice A0_2 u.length c0_2, .slice A0_3 G.length c0_3]) rfl rfl (fun Z => ?_); refine At.run 1 rfl (nT (At.seq (At.region ?_))); obtain ⟨a9, e4, j⟩ := bbind j; refine At.call rfl Q93.callee rfl rfl rfl (Q93.spec hg0 e4) ?_; rintro _ _ ⟨rfl, rfl⟩; refine At.run 1 rfl (nT (At.seq (At.region (At.y (Y.load rfl rfl .z rfl rfl rfl) rfl rfl rfl ?_)))); obtain ⟨q, e5, j⟩ := bbind j; refine At.call rfl Q16.callee rfl rfl rfl (Q16.spec hr0_1 rfl hc0_1 hr0_2 rfl hc0_2 hr0_3 rfl hc0_3 e5) ?_; rintro _ _ ⟨C, rfl, rfl⟩; refine At.run 1 rfl (nT (At.seq (sR 3 rfl ?_))); obtain ⟨e6, e7, r9, j⟩ := bjoin j; let T5 : HProp := pc Z [i6 p, .slice A0_1 E.length c0_1, .slice A0_2 u.length c0_2, .slice A0_3 G.length c0_3] 26; refine At.joinO 3 (X := Bool) (fun a0 => [(1, .slice A1 a1.length c1), (2, i6 a2), (3, bp Z), (7, .bool a9), (8, optp C), (24, .bool a0)]) (fun a0 => optb Q36.ow 82 C q :: T5 :: Fr) (fun a0 => e6 (.inl a0) = some r) ?_ (fun d1 => ?_)
 ·rintro a0 j; have j := (e7 _).symm.trans j
  ·refine At.run 1 rfl ?_; obtain ⟨e8, e9, s0, j⟩ := bjoin j; refine At.joinO 4 (X := Bool) (fun a3 => [(1, .slice A1 a1.length c1), (2, i6 a2), (3, bp Z), (7, .bool a9), (8, optp C), (29, .bool a3)]) (fun a3 => optb Q36.ow 82 C q :: T5 :: Fr) (fun a3 => e8 (.inl a3) = some r) ?_ (fun d2 => ?_)
   ·rintro a3 j; have j := (e9 _).symm.trans j
    ·refine At.run 1 rfl ?_; obtain ⟨f0, f4, s1, j⟩ := bjoin j; refine At.joinO 5 (X := Bool) (fun a4 => [(1, .slice A1 a1.length c1), (2, i6 a2), (3, bp Z), (7, .bool a9), (8, optp C), (35, .bool a4)]) (fun a4 => optb Q36.ow 82 C q :: T5 :: Fr) (fun a4 => f0 (.inl a4) = some r) ?_ (fun d3 => ?_)
     ·rintro a4 j; have j := (f4 _).symm.trans j
      ·refine At.run 1 rfl ?_; obtain ⟨f5, f6, s2, j⟩ := bjoin j; refine At.joinO 5 (X := Bool) (fun a5 => [(1, .slice A1 a1.length c1), (2, i6 a2), (3, bp Z), (7, .bool a9), (8, optp C), (41, .bool a5)]) (fun a5 => optb Q36.ow 82 C q :: T5 :: Fr) (fun a5 => f5 (.inl a5) = some r) ?_ (fun d4 => ?_)
       ·rintro a5 j; have j := (f6 _).symm.trans j
        ·refine nT ?_; rcases bite j with ⟨b6, j⟩ | ⟨b6, j⟩
         ··refine At.condT rfl b6 ?_
           refine sR 2 rfl (nT (At.ret (At.thr (At.drop .z ?_)))); refine At.drop .z ?_; cases bret j; exact At.res (.inl rfl) rfl rfl ⟨rfl, rfl⟩
         ··refine At.condF rfl (bn b6) ?_
           refine At.skip (At.thn (At.seq (At.region (At.y (Y.load rfl rfl (.s .z) rfl rfl rfl) rfl rfl rfl ?_)))); refine At.alloc rfl rfl rfl (fun a6 => ?_); refine At.store rfl rfl rfl rfl .z rfl rfl rfl (.c (.c (.c (.c .n)))) ?_; refine nT (sR 1 rfl (At.y (Y.load rfl rfl (.s (.s .z)) rfl rfl rfl) rfl rfl rfl (At.run 2 rfl ?_))); refine At.store rfl rfl rfl rfl .z rfl rfl rfl (.c .n) ?_; refine nT (At.seq (sR 1 rfl (At.y (Y.load rfl rfl (.s (.s .z)) rfl rfl rfl) rfl rfl rfl (At.run 2 rfl ?_)))); refine nT ?_; obtain ⟨f7, f8, s3, j⟩ := bjoin j; refine At.join (X := (List Q3) × Nat × (Option Addr) × Nat) (fun s_ => [(1, .slice A1 a1.length c1), (2, i6 a2), (8, optp C), (9, bp a6)]) (fun s_ => pc a6 [i6 (IntKind.i64.wrap (p + 1)), .slice A0_1 E.length c0_1, .slice s_.2.2.1 s_.2.1 s_.2.2.2, .slice A0_3 G.length c0_3] 26 :: mix Q3.fl 48 R.heap s_.2.2.1 s_.2.1 s_.2.2.2 s_.1 :: optb Q36.ow 82 C q :: T5 :: Fr) (fun s_ => f7 (.inl s_.1) = some r ∧ s_.1.length = s_.2.1) ?_ (fun d5 => ?_)
           ·rintro ⟨d6, f9, g0, g1⟩ ⟨j, g2⟩; obtain rfl : d6.length = f9 := g2; have j := (f8 _).symm.trans j
            ·refine At.seq (At.region (At.y (Y.load rfl rfl .z rfl rfl rfl) rfl rfl rfl ?_)); refine At.freezeMix (Sub.refl _) (.s .z) fun s4 g3 g4 g5 J d7 => ?_; obtain ⟨D, g6, j⟩ := bbind j; refine At.call rfl Q16.callee rfl rfl rfl (Q16.spec (RdS.mono J hr0_1) rfl hc0_1 g3 g4 g5 (RdS.mono J hr0_3) rfl hc0_3 g6) ?_; rintro _ _ ⟨s5, rfl, rfl⟩; refine At.run 1 rfl (nT (At.seq (sR 1 rfl ?_))); refine At.y (Y.eqOpt .z rfl rfl rfl rfl) rfl rfl rfl ?_; refine nT ?_; rcases bite j with ⟨b2, j⟩ | ⟨b2, j⟩
             ··refine At.condT rfl b2 ?_
               refine sR 1 rfl (nT (At.ret (At.thr ?_))); refine At.thaw d7 ?_; refine At.drop .z (At.drop .z (At.drop .z (At.drop .z (At.drop .z ?_)))); cases bret j; exact At.res (.inl rfl) rfl rfl ⟨rfl, rfl⟩
             ··refine At.condF rfl (bn b2) ?_
               refine At.skip (At.thn (sR 3 rfl ?_)); obtain ⟨g7, j⟩ := bnone j; refine At.optOpen (.s (.s .z)) g7 (fun g8 g9 s6 => ?_); have h0 := j; subst g9; have j := h0; refine At.ownPair (T := Ow.fl (Fl.int .i64)) (U := ((Ow.mp Fl.bs.ov Q4.fl.av).pair (Ow.mp Q9.fl.av Q4.fl.av))) (x := ((q.getD default).states, (q.getD default).holds, (q.getD default).next)) (.s .z) ?_; rintro s7 s8 rfl; refine At.ownFl (F := (Fl.int .i64)) (x := (q.getD default).states) .z ?_; rintro rfl; refine At.ownPair (T := Ow.mp Fl.bs.ov Q4.fl.av) (U := (Ow.mp Q9.fl.av Q4.fl.av)) (x := ((q.getD default).holds, (q.getD default).next)) .z ?_; rintro s9 t0 rfl; refine At.ownMp (kv := Fl.bs.ov) (vv := Q4.fl.av) (kvs := (q.getD default).holds) .z ?_; rintro d8 rfl; refine At.ownMp (kv := Q9.fl.av) (vv := Q4.fl.av) (kvs := (q.getD default).next) (.s .z) ?_; rintro d9 rfl; refine At.f1 (At.f2 ?_); obtain ⟨b3, h1, j⟩ := bbind j; refine At.call rfl Q20.callee rfl rfl rfl (Q20.spec (RdS.mono J hr1) rfl hc1 (RdS.mono J hg0) h1) ?_; rintro _ _ ⟨t1, h2, h3, t3, h4, h5, t4, h6, h7, t5, h8, h9, rfl, rfl, rfl, rfl, rfl, rfl⟩; refine At.run 3 rfl ?_; refine At.alloc rfl rfl rfl (fun k0 => ?_); refine At.store rfl rfl rfl rfl .z rfl rfl rfl (.c (.c (.c (.c .n)))) ?_; refine At.run 1 rfl (nT (sR 3 rfl ?_)); refine At.optOpen (.s (.s (.s (.s (.s (.s (.s (.s .z)))))))) (bn b2) (fun k1 k2 t6 => ?_); have k3 := j; subst k2; have j := k3; refine At.ownPair (T := Ow.fl (Fl.int .i64)) (U := ((Ow.mp Fl.bs.ov Q4.fl.av).pair (Ow.mp Q9.fl.av Q4.fl.av))) (x := ((D.getD default).states, (D.getD default).holds, (D.getD default).next)) (.s .z) ?_; rintro t7 t8 rfl; refine At.ownFl (F := (Fl.int .i64)) (x := (D.getD default).states) .z ?_; rintro rfl; refine At.ownPair (T := Ow.mp Fl.bs.ov Q4.fl.av) (U := (Ow.mp Q9.fl.av Q4.fl.av)) (x := ((D.getD default).holds, (D.getD default).next)) .z ?_; rintro t9 u0 rfl; refine At.ownMp (kv := Fl.bs.ov) (vv := Q4.fl.av) (kvs := (D.getD default).holds) .z ?_; rintro e0 rfl; refine At.ownMp (kv := Q9.fl.av) (vv := Q4.fl.av) (kvs := (D.getD default).next) (.s .z) ?_; rintro e1 rfl; refine At.f1 (At.f2 ?_); obtain ⟨b4, k4, j⟩ := bbind j; refine At.call rfl Q20.callee rfl rfl rfl (Q20.spec (RdS.mono J hr1) rfl hc1 (RdS.mono J hg0) k4) ?_; rintro _ _ ⟨u1, k5, k6, u2, k7, k8, u3, k9, l6, u4, l7, l8, rfl, rfl, rfl, rfl, rfl, rfl⟩; refine At.run 3 rfl ?_; refine At.alloc rfl rfl rfl (fun l9 => ?_); refine At.store rfl rfl rfl rfl .z rfl rfl rfl (.c (.c (.c (.c .n)))) ?_; refine At.run 1 rfl (nT (At.seq (At.region ?_))); refine At.y (Y.load rfl rfl (.s (.s (.s (.s (.s (.s (.s (.s .z)))))))) rfl rfl rfl) rfl rfl rfl ?_; refine At.y (Y.load rfl rfl .z rfl rfl rfl) rfl rfl rfl ?_; refine At.freeze (.s (.s (.s (.s (.s (.s (.s (.s (.s .z))))))))) fun u5 m0 m1 m2 u6 m3 => ?_; refine At.freeze (.s (.s (.s (.s (.s (.s (.s (.s (.s .z))))))))) fun u7 m4 m5 m6 m7 m8 => ?_; refine At.freezeRows (.s (.s (.s (.s (.s (.s (.s (.s (.s .z))))))))) fun u9 m9 n2 n4 e2 n5 => ?_; refine At.freeze (.s (.s (.s (.s (.s (.s (.s (.s (.s .z))))))))) fun v0 n6 n7 n8 b7 n9 => ?_; refine At.freeze (.s .z) fun v1 o0 o7 o8 b5 o9 => ?_; refine At.freeze (.s .z) fun v2 p0 p1 p2 a7 p3 => ?_; refine At.freezeRows (.s .z) fun v3 p4 p5 p6 V p7 => ?_; refine At.freeze (.s .z) fun v4 p8 p9 q0 I q1 => ?_; obtain ⟨q2, q3, j⟩ := bbind j; refine At.call rfl Q51.callee rfl rfl rfl (Q51.spec (RdS.mono ((((((m7.trans e2).trans b7).trans b5).trans a7).trans V).trans I) m0) m1 m2 (RdS.mono (((((e2.trans b7).trans b5).trans a7).trans V).trans I) m4) m5 m6 (RdS.mono ((((b7.trans b5).trans a7).trans V).trans I) m9) n2 n4 (RdS.mono (((b5.trans a7).trans V).trans I) n6) n7 n8 (RdS.mono ((a7.trans V).trans I) o0) o7 o8 (RdS.mono (V.trans I) p0) p1 p2 (RdS.mono I p4) p5 p6 p8 p9 q0 q3) ?_; rintro _ _ ⟨rfl, rfl⟩; refine At.run 1 rfl (nT (sR 4 rfl ?_)); obtain ⟨q4, q5, v5, j⟩ := bjoin j; let T6 : HProp := pc l9 [.slice l7 b4.2.2.2.1.length l8, .slice k9 b4.2.2.1.length l6, .slice k7 b4.2.1.length k8, .slice k5 b4.1.length k6] 59; let T7 : HProp := pc k1 [i6 ((D.getD default).states), .map (some e0), .map (some e1)] 82; let T8 : HProp := mapo Fl.bs.ov Q4.fl.av e0 ((D.getD default).holds); let T9 : HProp := mapo Q9.fl.av Q4.fl.av e1 ((D.getD default).next); let q6 : HProp := pc k0 [.slice h8 b3.2.2.2.1.length h9, .slice h6 b3.2.2.1.length h7, .slice h4 b3.2.1.length h5, .slice h2 b3.1.length h3] 59; let q7 : HProp := pc g8 [i6 ((q.getD default).states), .map (some d8), .map (some d9)] 82; let q8 : HProp := mapo Fl.bs.ov Q4.fl.av d8 ((q.getD default).holds); let q9 : HProp := mapo Q9.fl.av Q4.fl.av d9 ((q.getD default).next); let r0 : HProp := pc a6 [i6 (IntKind.i64.wrap (p + 1)), .slice A0_1 E.length c0_1, .slice g0 d6.length g1, .slice A0_3 G.length c0_3] 26; refine At.joinO 2 (X := Bool) (fun a8 => [(88, .bool a8)]) (fun a8 => T6 :: T7 :: T8 :: T9 :: q6 :: q7 :: q8 :: q9 :: r0 :: T5 :: Fr) (fun a8 => q4 (.inl a8) = some r) ?_ (fun e3 => ?_)
               ·rintro a8 j; have j := (q5 _).symm.trans j
                ·refine At.run 1 rfl (nT (At.ret ?_)); refine At.thaw q1 ?_; refine At.thaw p7 ?_; refine At.thaw p3 ?_; refine At.thaw o9 ?_; refine At.thaw n9 ?_; refine At.thaw n5 ?_; refine At.thaw m8 ?_; refine At.thaw m3 ?_; refine At.thaw d7 ?_; refine At.drop .z (At.drop .z (At.drop .z (At.drop .z (At.drop .z (At.drop .z (At.drop .z (At.drop .z ?_))))))); refine At.drop .z (At.drop .z (At.drop .z (At.drop .z (At.drop .z (At.drop .z (At.drop .z (At.drop .z ?_))))))); refine At.drop .z (At.drop .z (At.drop .z ?_)); cases bret j; exact At.res (.inl rfl) rfl rfl ⟨rfl, rfl⟩
               ··rcases bite j with ⟨b8, j⟩ | ⟨b8, j⟩
                 ··refine At.know (t := 86) rfl (decide_eq_true b8) ?_
                   refine At.run 2 rfl ?_; exact At.of (e3 q2 j) ⟨rfl, trivial⟩
                 ··refine At.know (t := 86) rfl (decide_eq_false b8) ?_
                   refine At.run 2 rfl ?_; exact At.of (e3 false j) ⟨rfl, trivial⟩
           ··rcases bite j with ⟨b9, j⟩ | ⟨b9, j⟩
             ··refine At.condT rfl (decide_eq_true b9) ?_
               refine At.held [optb Q36.ow 82 C q, T5] 11 rfl ?_; refine At.H.pw 1 rfl rfl rfl rfl rfl (.c (.s .z) (.c (.s .z) .n)) ?_; refine At.H.tw 2 rfl (Y.load rfl rfl (.s .z) rfl rfl rfl) rfl rfl rfl (.c (.s .z) (.c (.s .z) .n)) ?_; refine At.H.pw 4 rfl rfl rfl rfl rfl (.c (.s .z) (.c (.s .z) .n)) ?_; refine At.H.tw 5 rfl (Y.load rfl rfl (.s .z) rfl rfl rfl) rfl rfl rfl (.c (.s .z) (.c (.s .z) .n)) ?_; refine At.H.tw 6 rfl (Y.build (is := [0, 2]) (xo := [.tmp 57, .const (i6 0)]) (vs := [i6 p, i6 0]) (cs := [i6 p, i6 0, i6 0]) rfl rfl rfl rfl rfl rfl) rfl rfl rfl (.c (.s .z) (.c (.s .z) .n)) ?_; obtain ⟨c4, j⟩ := bnone j; obtain ⟨c5, j⟩ := bnone j; refine At.H.joinK (X := (Option Addr) × Nat) (fun s_ => [(1, .slice A1 a1.length c1), (2, i6 a2), (8, optp C), (9, bp a6)]) (fun s_ => pc a6 [i6 (IntKind.i64.wrap (p + 1)), .slice A0_1 E.length c0_1, .slice s_.1 (((([] : List Q3) ++ u) ++ ([(⟨p, 0, 0⟩ : Q3)] : List Q3)).length) s_.2, .slice A0_3 G.length c0_3] 26 :: row Q3.fl 48 s_.1 (((([] : List Q3) ++ u) ++ ([(⟨p, 0, 0⟩ : Q3)] : List Q3)).length) s_.2 ((([] : List Q3) ++ u) ++ ([(⟨p, 0, 0⟩ : Q3)] : List Q3)) :: optb Q36.ow 82 C q :: T5 :: Fr) (fun s_ => True) ?_ (fun c6 => ?_)
               ·rintro ⟨r1, r2⟩ -
                ·refine At.thn ?_; refine At.toMix R.heap (.s .z) ?_; refine At.f3 (At.f3 (At.f2 (At.f3 ?_))); exact fun a w e hs => d5 (((([] : List Q3) ++ u) ++ ([(⟨p, 0, 0⟩ : Q3)] : List Q3)), ((([] : List Q3) ++ u) ++ ([(⟨p, 0, 0⟩ : Q3)] : List Q3)).length, r1, r2) ⟨j, rfl⟩ a w (e.sub ⟨rfl, rfl, rfl, rfl, trivial⟩) hs
               ·refine At.H.al [0, 7] (Q7 ?_ (Q7 ?_ Q8))
                ··refine At.HO.op rfl ?_
                  refine At.lit rfl (xo := []) (ys := ([] : List Q3)) Q3.fl rfl rfl rfl rfl rfl rfl rfl rfl rfl rfl rfl (fun v6 v7 => ?_); refine At.HO.back (.c (.s (.s .z)) (.c (.s (.s .z)) .n)) ?_; refine At.H.al [3, 7] (Q7 ?_ (Q7 ?_ Q8))
                  ··refine At.HO.op rfl ?_
                    refine At.appendAll rfl .z (SrcE.rd hr0_2) rfl rfl rfl rfl rfl rfl rfl rfl rfl c4 (by decide) rfl (fun v8 v9 => ?_); refine At.HO.back (.c (.s (.s .z)) (.c (.s (.s .z)) .n)) ?_; refine At.H.al [7] (Q7 ?_ Q8)
                    ··refine At.HO.op rfl ?_
                      refine At.lit rfl (xo := [.tmp 58]) (ys := ([(⟨p, 0, 0⟩ : Q3)] : List Q3)) Q3.fl rfl rfl rfl rfl rfl rfl rfl rfl rfl rfl rfl (fun w0 w1 => ?_); refine At.HO.back (.c (.s (.s (.s .z))) (.c (.s (.s (.s .z))) .n)) ?_; refine At.H.al [8] (Q7 ?_ Q8)
                      ··refine At.HO.op rfl ?_
                        refine At.append rfl (.s .z) (Src.own .z (by simp)) rfl rfl rfl rfl rfl rfl rfl rfl c5 (by decide) rfl (fun r3 r4 => ?_); refine At.drop (.s .z) ?_; refine At.HO.back (.c (.s (.s .z)) (.c (.s (.s .z)) .n)) ?_; refine At.H.pw 9 rfl rfl rfl rfl rfl (.c (.s (.s .z)) (.c (.s (.s .z)) .n)) ?_; refine At.H.al [10] (Q7 ?_ Q8)
                        ··refine At.HO.op rfl ?_
                          refine At.store rfl rfl rfl rfl (.s .z) rfl rfl rfl (.s (.s (.c .n))) ?_; refine At.HO.back (.c (.s (.s .z)) (.c (.s (.s .z)) .n)) ?_; refine At.H.done (by kernel_rfl) ?_; exact At.of (c6 (r3, r4) trivial) ⟨rfl, rfl, rfl, rfl, trivial⟩
                  ··refine At.HO.op rfl ?_
                    refine At.lit rfl (xo := [.tmp 58]) (ys := ([(⟨p, 0, 0⟩ : Q3)] : List Q3)) Q3.fl rfl rfl rfl rfl rfl rfl rfl rfl rfl rfl rfl (fun w2 w3 => ?_); refine At.HO.back (.c (.s (.s (.s .z))) (.c (.s (.s (.s .z))) .n)) ?_; refine At.H.al [3] (Q7 ?_ Q8)
                    ··refine At.HO.op rfl ?_
                      refine At.appendAll rfl (.s .z) (SrcE.rd hr0_2) rfl rfl rfl rfl rfl rfl rfl rfl rfl c4 (by decide) rfl (fun w4 w5 => ?_); refine At.HO.back (.c (.s (.s (.s .z))) (.c (.s (.s (.s .z))) .n)) ?_; refine At.H.al [8] (Q7 ?_ Q8)
                      ··refine At.HO.op rfl ?_
                        refine At.append rfl .z (Src.own (.s .z) (by simp)) rfl rfl rfl rfl rfl rfl rfl rfl c5 (by decide) rfl (fun r5 r6 => ?_); refine At.drop (.s .z) ?_; refine At.HO.back (.c (.s (.s .z)) (.c (.s (.s .z)) .n)) ?_; refine At.H.pw 9 rfl rfl rfl rfl rfl (.c (.s (.s .z)) (.c (.s (.s .z)) .n)) ?_; refine At.H.al [10] (Q7 ?_ Q8)
                        ··refine At.HO.op rfl ?_
                          refine At.store rfl rfl rfl rfl (.s .z) rfl rfl rfl (.s (.s (.c .n))) ?_; refine At.HO.back (.c (.s (.s .z)) (.c (.s (.s .z)) .n)) ?_; refine At.H.done (by kernel_rfl) ?_; exact At.of (c6 (r5, r6) trivial) ⟨rfl, rfl, rfl, rfl, trivial⟩
                ··refine At.HO.op rfl ?_
                  refine At.lit rfl (xo := [.tmp 58]) (ys := ([(⟨p, 0, 0⟩ : Q3)] : List Q3)) Q3.fl rfl rfl rfl rfl rfl rfl rfl rfl rfl rfl rfl (fun w6 w7 => ?_); refine At.HO.back (.c (.s (.s .z)) (.c (.s (.s .z)) .n)) ?_; refine At.H.al [0] (Q7 ?_ Q8)
                  ··refine At.HO.op rfl ?_
                    refine At.lit rfl (xo := []) (ys := ([] : List Q3)) Q3.fl rfl rfl rfl rfl rfl rfl rfl rfl rfl rfl rfl (fun w8 w9 => ?_); refine At.HO.back (.c (.s (.s (.s .z))) (.c (.s (.s (.s .z))) .n)) ?_; refine At.H.al [3] (Q7 ?_ Q8)
                    ··refine At.HO.op rfl ?_
                      refine At.appendAll rfl .z (SrcE.rd hr0_2) rfl rfl rfl rfl rfl rfl rfl rfl rfl c4 (by decide) rfl (fun x0 x1 => ?_); refine At.HO.back (.c (.s (.s (.s .z))) (.c (.s (.s (.s .z))) .n)) ?_; refine At.H.al [8] (Q7 ?_ Q8)
                      ··refine At.HO.op rfl ?_
                        refine At.append rfl .z (Src.own (.s .z) (by simp)) rfl rfl rfl rfl rfl rfl rfl rfl c5 (by decide) rfl (fun r7 r8 => ?_); refine At.drop (.s .z) ?_; refine At.HO.back (.c (.s (.s .z)) (.c (.s (.s .z)) .n)) ?_; refine At.H.pw 9 rfl rfl rfl rfl rfl (.c (.s (.s .z)) (.c (.s (.s .z)) .n)) ?_; refine At.H.al [10] (Q7 ?_ Q8)
                        ··refine At.HO.op rfl ?_
                          refine At.store rfl rfl rfl rfl (.s .z) rfl rfl rfl (.s (.s (.c .n))) ?_; refine At.HO.back (.c (.s (.s .z)) (.c (.s (.s .z)) .n)) ?_; refine At.H.done (by kernel_rfl) ?_; exact At.of (c6 (r7, r8) trivial) ⟨rfl, rfl, rfl, rfl, trivial⟩
             ··refine At.condF rfl (decide_eq_false b9) ?_
               refine At.skip (At.thn ?_); refine At.mixRd Q3.fl 48 hr0_2 rfl hc0_2 ?_; refine At.f3 (At.f3 (At.f2 (At.f3 ?_))); exact fun a w e hs => d5 (u, u.length, A0_2, c0_2) ⟨j, rfl⟩ a w (e.sub ⟨rfl, rfl, rfl, rfl, trivial⟩) hs
       ··rcases bite j with ⟨c7, j⟩ | ⟨c7, j⟩
         ··refine At.know (t := 36) rfl c7 ?_
           refine At.run 5 rfl ?_; exact At.of (d4 true j) ⟨rfl, rfl, rfl, rfl, rfl, rfl, trivial⟩
         ··refine At.know (t := 36) rfl (bn c7) ?_
           refine At.run 1 rfl (At.y (Y.load rfl rfl (.s .z) rfl rfl rfl) rfl rfl rfl (At.run 3 rfl ?_)); exact At.of (d4 (decide (200 ≤ (u.length : Int))) j) ⟨rfl, rfl, rfl, rfl, rfl, rfl, trivial⟩
     ··rcases bite j with ⟨c8, j⟩ | ⟨c8, j⟩
       ··refine At.know (t := 30) rfl c8 ?_
         refine At.run 5 rfl ?_; exact At.of (d3 true j) ⟨rfl, rfl, rfl, rfl, rfl, rfl, trivial⟩
       ··refine At.know (t := 30) rfl (bn c8) ?_
         refine At.run 2 rfl (At.y (Y.load rfl rfl (.s .z) rfl rfl rfl) rfl rfl rfl (At.run 2 rfl ?_)); exact At.of (d3 (decide (a2 = p)) j) ⟨rfl, rfl, rfl, rfl, rfl, rfl, trivial⟩
   ··rcases bite j with ⟨c9, j⟩ | ⟨c9, j⟩
     ··refine At.know (t := 25) rfl c9 ?_
       refine At.run 4 rfl ?_; exact At.of (d2 true j) ⟨rfl, rfl, rfl, rfl, rfl, rfl, trivial⟩
     ··refine At.know (t := 25) rfl (bn c9) ?_
       refine At.run 1 rfl (At.y (Y.load rfl rfl (.s .z) rfl rfl rfl) rfl rfl rfl (At.run 2 rfl ?_)); exact At.of (d2 (decide (24 ≤ p)) j) ⟨rfl, rfl, rfl, rfl, rfl, rfl, trivial⟩
 ··rcases bite j with ⟨d0, j⟩ | ⟨d0, j⟩
   ··refine At.know (t := 21) rfl (nf d0) ?_
     refine At.run 1 rfl ?_; refine At.y (Y.eqOpt .z rfl rfl rfl rfl) rfl rfl rfl ?_; refine At.run 1 rfl ?_; exact At.of (d1 q.isNone j) ⟨rfl, rfl, rfl, rfl, rfl, rfl, trivial⟩
   ··refine At.know (t := 21) rfl (nt (bn d0)) ?_
     refine At.run 3 rfl ?_; exact At.of (d1 true j) ⟨rfl, rfl, rfl, rfl, rfl, rfl, trivial⟩

end Go.Bw
namespace Go.Bw
open Go Go.RowKit Go.Sort Go.Proofs Go.Shelf
section
variable {α : Type}
def insL (le : α → α → Bool) (x : α) : List α → List α
 | [] => [x]
 | y :: ys => if le x y = true then x :: y :: ys else y :: insL le x ys
def insS (le : α → α → Bool) : List α → List α
 | [] => []
 | x :: xs => insL le x (insS le xs)
theorem Q221 (le : α → α → Bool) (x : α) : ∀ l : List α, (insL le x l).Perm (x :: l)
 | [] => List.Perm.refl _
 | y :: ys => by
  unfold insL
  split
  ·exact List.Perm.refl _
  ·exact ((Q221 le x ys).cons y).trans (List.Perm.swap x y ys)
theorem Q156 (le : α → α → Bool) : ∀ l : List α, (insS le l).Perm l
 | [] => List.Perm.refl _
 | x :: xs => (Q221 le x _).trans ((Q156 le xs).cons x)
def pwB (le : α → α → Bool) : List α → Bool
 | [] => true
 | x :: xs => xs.all (le x) && pwB le xs
theorem pwB_mem {le : α → α → Bool} : ∀ {a : List α}, pwB le a = true → a.Pairwise fun x y => le x y = true
 | [], _ => List.Pairwise.nil
 | x :: xs, e => by
  unfold pwB at e
  rw [Bool.and_eq_true, List.all_eq_true] at e
  exact List.Pairwise.cons e.1 (pwB_mem e.2)
theorem Q223 {le : α → α → Bool} (tr : ∀ a b c, le a b = true → le b c = true → le a c = true) (to : ∀ a b, (le a b || le b a) = true) {a r : List α} (an : ∀ x y, x ∈ a → y ∈ a → le x y = true → le y x = true → x = y) (hp : r.Perm a) (hr : r.Pairwise fun x y => le x y = true) :
 a.mergeSort le = r :=
 List.Perm.eq_of_pairwise (le := fun x y => le x y = true) (fun x y hx hy h1 h2 => an x y ((List.mergeSort_perm a le).subset hx) (hp.subset hy) h1 h2) (List.pairwise_mergeSort tr to a) hr ((List.mergeSort_perm a le).trans hp.symm)
def leC (c : α → α → Option Int) (x y : α) : Bool := match c y x with | some v => decide (0 ≤ v) | none => false
def sortC (c : α → α → Option Int) (a : List α) : Option (List α) := let r := insS (leC c) a; if pwB (leC c) r = true then some r else none
theorem leC_mem {c cc : α → α → Option Int} (h : ∀ x y, Ap (cc x y) (c x y)) {x y : α} (e : leC cc x y = true) : (!(ltOf (gcf c)) y x) = true := by
 unfold leC at e
 cases hc : cc y x with
 | none => rw [hc] at e; cases e
 | some v =>
  rw [hc] at e
  have hv := h y x v hc
  unfold ltOf gcf
  rw [hv]
  simpa using e
theorem swo_le {lt : α → α → Bool} (s : SWO lt) : (∀ a b c, (!lt b a) = true → (!lt c b) = true → (!lt c a) = true) ∧ ∀ a b, ((!lt b a) || (!lt a b)) = true := by
 refine ⟨fun a b c h1 h2 => ?_, fun a b => ?_⟩
 ·simp only [Bool.not_eq_true'] at *
  exact s.ntrans _ _ _ h2 h1
 ·cases h : lt b a with
  | false => rfl
  | true =>
   cases h2 : lt a b with
   | false => rfl
   | true => have := s.trans _ _ _ h h2; rw [s.irrefl] at this; cases this
theorem sort_mem {c cc : α → α → Option Int} (h : ∀ x y, Ap (cc x y) (c x y)) {a r : List α} (s : CmpSwo c) (an : ∀ x y, x ∈ a → y ∈ a → ltOf (gcf c) x y = false → ltOf (gcf c) y x = false → x = y) (e : sortC cc a = some r) : byCmp c a = r ∧ r.length = a.length := by
 unfold sortC at e
 dsimp only at e
 split at e
 ·rename_i hp
  obtain rfl := Option.some.inj e
  refine ⟨Q223 (swo_le s.2).1 (swo_le s.2).2 (fun x y hx hy h1 h2 => ?_) (Q156 _ _) ((pwB_mem hp).imp fun {x y} hxy => leC_mem h hxy), (Q156 _ _).length_eq⟩
  simp only [Bool.not_eq_true'] at h1 h2
  exact an x y hx hy h2 h1
 ·cases e
theorem sort_tot {c cc : α → α → Option Int} (h : ∀ x y, Ap (cc x y) (c x y)) {a r : List α} (s : CmpTot c) (e : sortC cc a = some r) : byCmp c a = r ∧ r.length = a.length := sort_mem h s.1 (fun x y _ _ => s.2 x y) e
end
def few2C {α : Type} (o : Option (List α)) : Option (List α) := o.bind fun a => if a.length ≤ 1000 then some a else none
theorem Q231 {α : Type} {o : Option (List α)} {r : List α} (h : few2C o = some r) : o = some r ∧ r.length ≤ 1000 := by
 unfold few2C at h
 cases o with
 | none => cases h
 | some a =>
  simp only [Option.bind_some] at h
  split at h
  ·rename_i hl
   obtain rfl := Option.some.inj h
   exact ⟨rfl, hl⟩
  ·cases h
def sortB (a : List Bs) : Option (List Bs) := some (insS (fun x y => decide (x ≤ y)) a)
def sortI (a : List Int) : Option (List Int) := some (insS (fun x y => decide (x ≤ y)) a)
section
variable {α : Type}
theorem insL_pw {le : α → α → Bool} (tr : ∀ a b c, le a b = true → le b c = true → le a c = true) (to : ∀ a b, (le a b || le b a) = true) (x : α) : ∀ {l : List α}, l.Pairwise (fun x y => le x y = true) → (insL le x l).Pairwise fun x y => le x y = true
 | [], _ => List.pairwise_singleton _ _
 | y :: ys, h => by
  unfold insL
  have h1 := List.pairwise_cons.1 h
  split
  ·rename_i hxy
   exact List.Pairwise.cons (fun z hz => (List.mem_cons.1 hz).elim (fun e => e ▸ hxy) fun hz => tr _ _ _ hxy (h1.1 z hz)) h
  ·rename_i hxy
   refine List.Pairwise.cons (fun z hz => ?_) (insL_pw tr to x h1.2)
   rcases List.mem_cons.1 ((Q221 le x ys).subset hz) with rfl | hz
   ·have := to z y; simp [hxy] at this; exact this
   ·exact h1.1 z hz
theorem Q219 {le : α → α → Bool} (tr : ∀ a b c, le a b = true → le b c = true → le a c = true) (to : ∀ a b, (le a b || le b a) = true) : ∀ (l : List α), (insS le l).Pairwise fun x y => le x y = true
 | [] => List.Pairwise.nil
 | x :: xs => insL_pw tr to x (Q219 tr to xs)
end
theorem sortI_eq {a r : List Int} (h : sortI a = some r) : (a.mergeSort fun x y => decide (x ≤ y)) = r ∧ r.length = a.length := by
 obtain rfl := Option.some.inj h
 have tr : ∀ a b c : Int, decide (a ≤ b) = true → decide (b ≤ c) = true → decide (a ≤ c) = true := fun a b c h1 h2 => by simp only [decide_eq_true_eq] at *; omega
 have to : ∀ a b : Int, (decide (a ≤ b) || decide (b ≤ a)) = true := fun a b => by simp; omega
 exact ⟨Q223 tr to (fun x y _ _ h1 h2 => by simp only [decide_eq_true_eq] at *; omega) (Q156 _ _) (Q219 tr to a), (Q156 _ _).length_eq⟩
theorem sortB_eq {a r : List Bs} (h : sortB a = some r) : (a.mergeSort fun x y => decide (x ≤ y)) = r ∧ r.length = a.length := by
 obtain rfl := Option.some.inj h
 have tr : ∀ a b c : Bs, decide (a ≤ b) = true → decide (b ≤ c) = true → decide (a ≤ c) = true := fun a b c h1 h2 => by simp only [decide_eq_true_eq] at *; exact List.le_trans h1 h2
 have to : ∀ a b : Bs, (decide (a ≤ b) || decide (b ≤ a)) = true := fun a b => by simp only [Bool.or_eq_true, decide_eq_true_eq]; exact List.le_total a b
 exact ⟨Q223 tr to (fun x y _ _ h1 h2 => by simp only [decide_eq_true_eq] at *; exact List.le_antisymm h1 h2) (Q156 _ _) (Q219 tr to a), (Q156 _ _).length_eq⟩
section
variable {α β σ τ : Type}
def insA (x : α) : List α → List (List α)
 | [] => [[x]]
 | y :: ys => (x :: y :: ys) :: (insA x ys).map (y :: ·)
def perms : List α → List (List α)
 | [] => [[]]
 | x :: xs => (perms xs).flatMap (insA x)
theorem Q287 (x : α) (b : List α) : ∀ a : List α, a ++ x :: b ∈ insA x (a ++ b)
 | [] => by cases b <;> simp [insA]
 | y :: a => by
  show y :: (a ++ x :: b) ∈ insA x (y :: (a ++ b))
  unfold insA
  exact List.mem_cons_of_mem _ (List.mem_map_of_mem (Q287 x b a))
theorem Q265 : ∀ {xs ys : List α}, ys.Perm xs → ys ∈ perms xs
 | [], ys, h => by rw [h.eq_nil]; simp [perms]
 | x :: xs, ys, h => by
  obtain ⟨a, b, rfl⟩ := List.append_of_mem (h.symm.subset List.mem_cons_self)
  have h2 : (a ++ b).Perm xs := (List.perm_middle.symm.trans h).cons_inv
  unfold perms
  exact List.mem_flatMap.2 ⟨a ++ b, Q265 h2, Q287 x b a⟩
def orderedP [DecidableEq β] (kvs : List α) (step : σ → α → Option σ) (s0 : σ) (out : σ → τ) (f : τ → Option β) : Option β :=
 match (foldO step s0 kvs).bind fun s => f (out s) with
 | none => none
 | some r => if (perms kvs).all (fun ys => decide (((foldO step s0 ys).bind fun s => f (out s)) = some r)) = true then some r else none
theorem Ap.orderedP [DecidableEq β] {kvs : List α} {f g : σ → α → Option σ} {s0 : σ} {out : σ → τ} {p q : τ → Option β} (h : ∀ s x, Ap (f s x) (g s x)) (k : ∀ t, Ap (p t) (q t)) : Ap (Bw.orderedP kvs f s0 out p) (Bw.ordered kvs g s0 out q) := fun r e => by
 unfold Bw.orderedP at e
 split at e
 ·cases e
 ·rename_i r' hr'
  split at e
  ·rename_i ha
   obtain rfl := Option.some.inj e
   rw [List.all_eq_true] at ha
   refine Q240.2 fun ys hy => ?_
   have := of_decide_eq_true (ha ys (Q265 hy))
   exact Ap.bind (Q276 h) (fun t => k _) _ this
  ·cases e
end
end Go.Bw
namespace Go.Bw
open Go Go.RowKit
instance : DecidableEq Q5 := fun a b => decidable_of_iff (a.Name = b.Name ∧ a.States = b.States) (by cases a; cases b; simp)
noncomputable def Q56.fc (fu : Nat) (a0 : List Int) : Option (List Int) := few2C (sortI a0)
theorem Q56.f_ap (fu : Nat) (a0 : List Int) : Ap (Q56.fc fu a0) (Q56.f a0) := fun r h => by
 unfold Q56.fc at h
 obtain ⟨h, hl⟩ := Q231 h
 obtain ⟨hb, hl2⟩ := sortI_eq h
 unfold Q56.f
 rw [if_pos (by omega), hb]
noncomputable def Q46.fc (fu : Nat) (I : List Q1) (J : Option Q6) (u : Int) (C : List Bs) (D : List Q3) (q : List Q5) (E : List Q10) (G : List (Bs × Bool)) : Option ((List Q5) × (Option Q6) × (List Q1)) :=
 (Q115.f I J u C D q E G).bind fun p =>
 jn (
 if p.1.isNone = true then
 if 8 ≤ (q.length : Int) then
 (Q18.f p.2.1 p.1 u C D q E G p.2.2.1 p.2.2.2.1 p.2.2.2.2.1 p.2.2.2.2.2 10).bind fun U =>
 some (.inl U)
 else
 (Q142.f q p.2.2.1 p.2.2.2.1 p.2.2.2.2.1 p.2.2.2.2.2).bind fun V =>
 if V = true then
 (Q18.f p.2.1 p.1 u C D q E G p.2.2.1 p.2.2.2.1 p.2.2.2.2.1 p.2.2.2.2.2 9).bind fun X =>
 some (.inl X)
 else
 some (.inl p.1)
 else
 up (some (q, p.1, p.2.1))) (fun (Z : Option Q6) =>
 jn (Q46.l0 u C D q E G ([] : List Int) Z p.2.1) (fun (s_ : (Option Q6) × (List Int) × (List Q1)) =>
 (Q56.fc fu s_.2.1).bind fun a0 =>
 if (q.length + 1) * 40 ≤ 140737488355328 then
 some ((q ++ [(⟨p.2.2.2.2.1, a0⟩ : Q5)]), s_.1, s_.2.2)
 else none))
theorem Q46.f_ap (fu : Nat) (p : List Q1) (q : Option Q6) (u : Int) (C : List Bs) (D : List Q3) (E : List Q5) (G : List Q10) (I : List (Bs × Bool)) : Ap (Q46.fc fu p q u C D E G I) (Q46.f p q u C D E G I) := by
 unfold Q46.fc Q46.f
 repeat' with_reducible first | apply Q56.f_ap | exact Ap.none | apply Ap.jn | apply Ap.ite | apply Ap.up | apply Ap.bind | exact Ap.refl _ | intro
noncomputable def Q85.fc (fu : Nat) (a0 : List Bs) : Option (List Bs) := few2C (sortB a0)
theorem Q85.f_ap (fu : Nat) (a0 : List Bs) : Ap (Q85.fc fu a0) (Q85.f a0) := fun r h => by
 unfold Q85.fc at h
 obtain ⟨h, hl⟩ := Q231 h
 obtain ⟨hb, hl2⟩ := sortB_eq h
 unfold Q85.f
 rw [if_pos (by omega), hb]
noncomputable def Q44.fc (fu : Nat) (a0 : List Q3) : Option (List Q3) := few2C (sortC (fun x y => Q108.f x.From x.Action x.To y.From y.Action y.To) a0)
theorem Q44.f_ap (fu : Nat) (a0 : List Q3) : Ap (Q44.fc fu a0) (Q44.f a0) := fun r h => by
 unfold Q44.fc at h
 obtain ⟨h, hl⟩ := Q231 h
 obtain ⟨hb, hl2⟩ := sort_tot (c := Q44.cmp) (fun x y => Ap.refl _) Q274 h
 unfold Q44.f
 rw [if_pos ⟨by omega, Q274⟩, hb]
noncomputable def Q47.fc (fu : Nat) (a0 : List Q5) : Option (List Q5) := soloC a0
theorem Q47.f_ap (fu : Nat) (a0 : List Q5) : Ap (Q47.fc fu a0) (Q47.f a0) := fun r h => by
 obtain ⟨rfl, h⟩ := solo_mem h
 rcases h with rfl | ⟨x, rfl⟩ <;> simp [Q47.f, byCmp, CmpParts, prop_swo]
noncomputable def Q32.fc (fu : Nat) (Z : List Q1) (a0 : Option Q6) (q : Int) (u : List Bs) (C : List Q3) (D : List Q5) (E : List Q10) (G : List (Bs × Bool)) : Option ((List Q5) × (List Q3) × (List Bs) × Int) :=
 orderedP G (fun (t_ : (List Bs)) (z_ : Bs × Bool) => Q32.l0b  z_ t_) u (fun I => I) (fun (J : List Bs) =>
 (Q85.fc fu J).bind fun p =>
 jn (Q32.l1 E p C 0) (fun (U : List Q3) =>
 (Q44.fc fu U).bind fun V =>
 (Q47.fc fu D).bind fun X =>
 some (X, V, p, q)))
theorem Q32.f_ap (fu : Nat) (p : List Q1) (q : Option Q6) (u : Int) (C : List Bs) (D : List Q3) (E : List Q5) (G : List Q10) (I : List (Bs × Bool)) : Ap (Q32.fc fu p q u C D E G I) (Q32.f p q u C D E G I) := by
 unfold Q32.fc Q32.f
 repeat' with_reducible first | apply Q85.f_ap | apply Q44.f_ap | apply Q47.f_ap | apply Ap.jn | apply Ap.orderedP | apply Ap.bind | exact Ap.refl _ | intro
noncomputable def Q22.l0bc (fu : Nat) (D : (Option Q6) × (List Q1) × Int) (E : Option Q6) (q : List Q5) (u : List Q10) (C : List (Bs × Bool)) (U : List Q1) : Option (((Option Q6) × (List Q5) × (List Q10) × (List (Bs × Bool)) × (List Q1)) ⊕ (((Option Q6) × (List Q5) × (List Q10) × (List (Bs × Bool)) × (List Q1)) ⊕ ((Option Q6) × (List Bs) × (List Q3) × (List Q5) × Int))) :=
 if E.isNone = true then
 (Q65.f U E D.2.2 ([] : List Bs) ([] : List Q3) q u C).bind fun G =>
 if (0 : Int) ≤ 0 ∧ 0 < (G.length : Int) then
 if (gt G 0).Kind = 0 then
 dn (.inl (E, q, u, C, G))
 else
 (Q58.f G E D.2.2 ([] : List Bs) ([] : List Q3) q u C 2).bind fun p =>
 if p.1.isNone = true then
 if bseq p.2.2.2.2.1 ([101, 100, 103, 101] : Bs) = true then
 (Q148.f p.2.1 p.1 D.2.2 ([] : List Bs) ([] : List Q3) q u C p.2.2.1 p.2.2.2.1 p.2.2.2.2.1 p.2.2.2.2.2).bind fun I =>
 nx (I.2.2.1, q, I.1, I.2.1, I.2.2.2)
 else
 if bseq p.2.2.2.2.1 ([109, 97, 114, 107] : Bs) = true then
 (Q46.fc fu p.2.1 p.1 D.2.2 ([] : List Bs) ([] : List Q3) q u C).bind fun J =>
 nx (J.2.1, J.1, u, C, J.2.2)
 else
 (Q18.f p.2.1 p.1 D.2.2 ([] : List Bs) ([] : List Q3) q u C p.2.2.1 p.2.2.2.1 p.2.2.2.2.1 p.2.2.2.2.2 7).bind fun V =>
 nx (V, q, u, C, p.2.1)
 else
 nx (p.1, q, u, C, p.2.1)
 else none
 else
 dn (.inl (E, q, u, C, U))
theorem Q22.l0b_ap (fu : Nat) (p : (Option Q6) × (List Q1) × Int) (q : Option Q6) (u : List Q5) (C : List Q10) (D : List (Bs × Bool)) (E : List Q1) : Ap (Q22.l0bc fu p q u C D E) (Q22.l0b p q u C D E) := by
 unfold Q22.l0bc Q22.l0b
 repeat' with_reducible first | apply Q46.f_ap | exact Ap.none | apply Ap.ite | apply Ap.bind | exact Ap.refl _ | intro
noncomputable def Q22.l0c (fu : Nat) (p : (Option Q6) × (List Q1) × Int) (q : Option Q6) (u : List Q5) (C : List Q10) (D : List (Bs × Bool)) (E : List Q1) : Option (((Option Q6) × (List Q5) × (List Q10) × (List (Bs × Bool)) × (List Q1)) ⊕ ((Option Q6) × (List Bs) × (List Q3) × (List Q5) × Int)) := iterC fu (fun t_ : (Option Q6) × (List Q5) × (List Q10) × (List (Bs × Bool)) × (List Q1) => Q22.l0bc fu p t_.1 t_.2.1 t_.2.2.1 t_.2.2.2.1 t_.2.2.2.2) (q, u, C, D, E)
theorem Q22.l0_ap (fu : Nat) (p : (Option Q6) × (List Q1) × Int) (q : Option Q6) (u : List Q5) (C : List Q10) (D : List (Bs × Bool)) (E : List Q1) : Ap (Q22.l0c fu p q u C D E) (Q22.l0 p q u C D E) := by
 unfold Q22.l0c Q22.l0
 repeat' with_reducible first | apply Q22.l0b_ap | apply Ap.iter | exact Ap.refl _ | intro
noncomputable def Q22.fc (fu : Nat) (a0 : Bs) : Option ((Option Q6) × (List Bs) × (List Q3) × (List Q5) × Int) :=
 (Q61.f a0).bind fun u =>
 if u.1.isNone = true then
 (Q149.f u.2 (none : Option Q6) 0 ([] : List Bs) ([] : List Q3) ([] : List Q5) ([] : List Q10) ([] : List (Bs × Bool))).bind fun p =>
 jn (Q22.l0c fu p p.1 ([] : List Q5) ([] : List Q10) ([] : List (Bs × Bool)) p.2.1) (fun (s_ : (Option Q6) × (List Q5) × (List Q10) × (List (Bs × Bool)) × (List Q1)) =>
 if s_.1.isNone = true then
 (Q32.fc fu s_.2.2.2.2 s_.1 p.2.2 ([] : List Bs) ([] : List Q3) s_.2.1 s_.2.2.1 s_.2.2.2.1).bind fun q =>
 some (none, q.2.2.1, q.2.1, q.1, q.2.2.2)
 else
 some ((some (⟨(s_.1.getD default).At, (s_.1.getD default).Err⟩ : Q6)), ([] : List Bs), ([] : List Q3), ([] : List Q5), 0))
 else
 some (u.1, ([] : List Bs), ([] : List Q3), ([] : List Q5), 0)
theorem Q22.f_ap (fu : Nat) (a0 : Bs) : Ap (Q22.fc fu a0) (Q22.f a0) := by
 unfold Q22.fc Q22.f
 repeat' with_reducible first | apply Q22.l0_ap | apply Q32.f_ap | exact Ap.none | apply Ap.jn | apply Ap.ite | apply Ap.bind | exact Ap.refl _ | intro
noncomputable def Q93.fc (fu : Nat)  : Option Bool :=
 (Q22.fc fu ([115, 116, 97, 116, 101, 115, 32, 50, 10, 101, 100, 103, 101, 32, 48, 32, 97, 32, 49, 10] : Bs)).bind fun q =>
 (Q16.f q.2.2.2.2 q.2.1 q.2.2.1 q.2.2.2.1).bind fun u =>
 (Q150.f ([60, 97, 62, 112] : Bs)).bind fun C =>
 jn (
 if q.1.isNone = true then
 some (.inl (!C.1.isNone))
 else
 some (.inl true)) (fun (D : Bool) =>
 jn (
 if D = true then
 some (.inl true)
 else
 some (.inl u.isNone)) (fun (E : Bool) =>
 if E = true then
 some false
 else
 if u.isNone = false then
 (Q20.f ((u.getD default).states) ((u.getD default).holds) ((u.getD default).next) C.2 0).bind fun p =>
 jn (
 if p.2.2.2.2 = 0 then
 some (.inl (decide ((p.1.length : Int) = 2)))
 else
 some (.inl false)) (fun (G : Bool) =>
 jn (
 if G = true then
 if (0 : Int) ≤ 1 ∧ 1 < (p.1.length : Int) then
 some (.inl (decide ((gt p.1 1).State = 1) && (decide ((gt p.1 1).Node = 0) && true)))
 else none
 else
 some (.inl false)) (fun (I : Bool) =>
 jn (
 if I = true then
 some (.inl (decide ((p.2.2.1.length : Int) = 2)))
 else
 some (.inl false)) (fun (J : Bool) =>
 jn (
 if J = true then
 if (0 : Int) ≤ 1 ∧ 1 < (p.2.2.1.length : Int) then
 some (.inl (decide (gt p.2.2.1 1 = 1)))
 else none
 else
 some (.inl false)) (fun (U : Bool) =>
 some U))))
 else none))
theorem Q93.f_ap (fu : Nat)  : Ap (Q93.fc fu ) (Q93.f ) := by
 unfold Q93.fc Q93.f
 repeat' with_reducible first | apply Q22.f_ap | exact Ap.none | apply Ap.jn | apply Ap.ite | apply Ap.bind | exact Ap.refl _ | intro
theorem Q328 : Q93.f = some true := Q93.f_ap 100 _ (by kernel_rfl)
end Go.Bw
namespace Go.Bw
open Go Go.RowKit

theorem iter_same {σ ρ : Type} {b1 b2 : σ → Option (σ ⊕ ρ)} (I : σ → Prop) (μ : σ → Nat) (h : ∀ s, I s → (∃ r, b1 s = some (.inr r) ∧ b2 s = some (.inr r)) ∨ ∃ s', b1 s = some (.inl s') ∧ b2 s = some (.inl s') ∧ I s' ∧ μ s' < μ s) : ∀ s, I s → iter b1 s = iter b2 s := by
 have key : ∀ n s, μ s < n → I s → iter b1 s = iter b2 s := by
  intro n
  induction n with
  | zero => intro s hn; omega
  | succ n ih =>
   intro s hn hI
   rcases h s hI with ⟨r, h1, h2⟩ | ⟨s', h1, h2, h3, h4⟩
   ·rw [Q214 h1, Q214 h2]
   ·rw [Q217 h1, Q217 h2]
    exact ih s' (by omega) h3
 exact fun s hI => key (μ s + 1) s (by omega) hI
theorem Q259 (n n' : Int) (ho ho' : List (Bs × Q4)) (ne ne' : List (Q9 × Q4)) (f : List Q0) (fr rk : List Int) (M : List (Q2 × Int)) (L : List Q2) (O P : List Int) (Ms : List (List Int)) (a b : Int) : Q79.f n ho ne f fr rk M L O P Ms a b = Q79.f n' ho' ne' f fr rk M L O P Ms a b := by
 unfold Q79.f
 rfl
theorem lay_same (n n' : Int) (ho ho' : List (Bs × Q4)) (ne ne' : List (Q9 × Q4)) (f : List Q0) (fr rk : List Int) (M : List (Q2 × Int)) (L : List Q2) (O P : List Int) (Ms : List (List Int)) (a b : Int) (ts : List Q2) : Q17.f n ho ne f fr rk M L O P Ms a b ts = Q17.f n' ho' ne' f fr rk M L O P Ms a b ts := by
 unfold Q17.f Q17.l0
 have : (fun t_ : (List Int) × (List (Q2 × Int)) × (List Q2) × Int => Q17.l0b n ho ne f fr rk O P Ms ts t_.1 t_.2.1 t_.2.2.1 t_.2.2.2) = (fun t_ : (List Int) × (List (Q2 × Int)) × (List Q2) × Int => Q17.l0b n' ho' ne' f fr rk O P Ms ts t_.1 t_.2.1 t_.2.2.1 t_.2.2.2) := by
  funext t
  unfold Q17.l0b
  simp only [Q259 n n' ho ho' ne ne']
 rw [this]
theorem Q207 (a : List Int) (ha : (a.length : Int) ≤ 1000000) : Q37.f a a = some true := by
 unfold Q37.f
 rw [if_pos rfl]
 obtain ⟨r, hr, rfl⟩ := Q38 (body := fun t_ : Int => Q37.l0b a a t_) (fun i => 0 ≤ i) (fun r => r = .inl ()) (fun i => ((a.length : Int) - i).toNat) (fun i i0 => by
  unfold Q37.l0b
  by_cases hi : i < (a.length : Int)
  ·right
   rw [if_pos hi, if_pos ⟨i0, hi⟩, if_pos ⟨i0, hi⟩, if_pos rfl, wrap64 (x := i + 1) (by omega) (by omega)]
   exact ⟨_, rfl, by omega, by omega⟩
  ·left
   rw [if_neg hi]
   exact ⟨_, rfl, rfl⟩) 0 (Int.le_refl 0)
 have hr' : Q37.l0 a a 0 = some (.inl ()) := hr
 rw [hr', Q12]
theorem Q263 (O P : List Int) (Ms : List (List Int)) (K : List Q2) (hO : (O.length : Int) ≤ 1000000) (hP : (P.length : Int) ≤ 1000000) (hM : (Ms.length : Int) ≤ 1000000) (hK : (K.length : Int) ≤ 1000000) (hm : ∀ i, 0 ≤ i → i < (Ms.length : Int) → ((gt Ms i).length : Int) ≤ 1000000) : Q51.f O P Ms K O P Ms K = some true := by
 unfold Q51.f
 rw [if_pos rfl]
 obtain ⟨r, hr, rfl⟩ := Q38 (body := fun t_ : Int => Q51.l0b K K t_) (fun i => 0 ≤ i) (fun r => r = .inl ()) (fun i => ((K.length : Int) - i).toNat) (fun i i0 => by
  unfold Q51.l0b
  by_cases hi : i < (K.length : Int)
  ·right
   rw [if_pos hi, if_pos ⟨i0, hi⟩, if_pos ⟨i0, hi⟩, if_pos (by simp), wrap64 (x := i + 1) (by omega) (by omega)]
   exact ⟨_, rfl, by omega, by omega⟩
  ·left
   rw [if_neg hi]
   exact ⟨_, rfl, rfl⟩) 0 (Int.le_refl 0)
 have hr' : Q51.l0 K K 0 = some (.inl ()) := hr
 rw [hr', Q12]
 unfold Q71.f
 rw [Q207 O hO, Q207 P hP]
 obtain ⟨r, hr2, rfl⟩ := Q38 (body := fun t_ : Int => Q71.l0b Ms Ms t_) (fun i => 0 ≤ i) (fun r => r = .inl ()) (fun i => ((Ms.length : Int) - i).toNat) (fun i i0 => by
  unfold Q71.l0b
  by_cases hi : i < (Ms.length : Int)
  ·right
   rw [if_pos hi, if_pos ⟨i0, hi⟩, if_pos ⟨i0, hi⟩, Q207 _ (hm i i0 hi), Option.bind_some, if_pos rfl, wrap64 (x := i + 1) (by omega) (by omega)]
   exact ⟨_, rfl, by omega, by omega⟩
  ·left
   rw [if_neg hi]
   exact ⟨_, rfl, rfl⟩) 0 (Int.le_refl 0)
 have hr3 : Q71.l0 Ms Ms 0 = some (.inl ()) := hr2
 simp only [Option.bind_some, if_true, Q12, Bool.not_true, Bool.false_eq_true, if_false, decide_true, hr3]
section
variable {n : Int} {x : List Bs} {y : List Q3} {z : List Q5} {f : List Q0} {to rk w : List Int}
def beE (n : Int) (x : List Bs) (y : List Q3) : List Q3 := if 0 < (x.length : Int) then y ++ [⟨n, 0, 0⟩] else y
theorem Q186 {e : Q3} : e ∈ beE n x y ↔ e ∈ y ∨ 0 < (x.length : Int) ∧ e = ⟨n, 0, 0⟩ := by
 unfold beE
 split
 ·rename_i h
  rw [List.mem_append, List.mem_singleton]
  exact ⟨fun e => e.imp id fun e => ⟨h, e⟩, fun e => e.imp id fun e => e.2⟩
 ·rename_i h
  exact ⟨.inl, fun e => e.elim id fun e => absurd e.1 h⟩
theorem be_right (R : RightS n x y z) (h1 : n < 24) (h2 : y.length < 200) : RightS (n + 1) x (beE n x y) z := by
 have n0 := R.n0
 refine ⟨by omega, by omega, R.nx, R.nz, ?_, fun e he => ?_, fun p hp => ?_, R.nm, fun k k0 k1 => ?_, ?_, R.rx, R.rz⟩
 ·unfold beE
  split
  ·simp; omega
  ·omega
 ·rcases Q186.1 he with he | ⟨hx, rfl⟩
  ·have := R.ed e he
   unfold EdgeIn at this ⊢
   omega
  ·unfold EdgeIn
   dsimp only
   omega
 ·have hP := R.pr p hp
  exact ⟨hP.1, fun s hs => by have := hP.2.1 s hs; omega, hP.2.2⟩
 ·obtain ⟨e, he, hk⟩ := R.us k k0 k1
  exact ⟨e, Q186.2 (.inl he), hk⟩
 ·unfold beE
  split
  ·refine rise_app R.re (fun i i0 i1 => by simp at i1; omega) fun u hu v hv => ?_
   rw [List.mem_singleton.1 hv]
   have := R.ed u hu
   unfold EdgeIn at this
   left
   dsimp only
   omega
  ·exact R.re
theorem Q241 {u v : W4} {S T : Int → Prop} (hu : u.Rep S) (hv : v.Rep T) (h : ∀ t, S t ↔ T t) : u = v := W4.ext4 fun m m0 m1 => Bool.eq_iff_iff.2 ((hu m m0 m1).trans ((h m).trans (hv m m0 m1).symm))
variable {next next' : List (Q9 × Q4)} {holds holds' : List (Bs × Q4)}
theorem be_nxl (hx : Nx x y next) (hx' : Nx x (beE n x y) next') {s : Int} (hs : s < n) (a : Bs) : nxl hx s a = nxl hx' s a := by
 unfold nxl
 rw [Q241 (Q210 hx s a) (Q210 hx' s a) fun t => ?_]
 constructor
 ·rintro ⟨e, he, h1, h2, h3⟩
  exact ⟨e, Q186.2 (.inl he), h1, h2, h3⟩
 ·rintro ⟨e, he, h1, h2, h3⟩
  rcases Q186.1 he with he | ⟨_, rfl⟩
  ·exact ⟨e, he, h1, h2, h3⟩
  ·dsimp only at h1
   omega
theorem be_hol (hh : Hx z holds) (hh' : Hx z holds') : hol hh = hol hh' := by
 funext a s
 unfold hol
 rw [Q241 (hoW_rep hh a) (hoW_rep hh' a) fun t => Iff.rfl]
theorem be_build (R : RightS n x y z) (hx : Nx x y next) (hh : Hx z holds) (R' : RightS (n + 1) x (beE n x y) z) (hx' : Nx x (beE n x y) next') (hh' : Hx z holds') (F : Fo f to w rk) {a : Int} (a0 : 0 ≤ a) (a1 : a < n) :
 Q20.f (n + 1) holds' next' f a = Q20.f n holds next f a := by
 obtain ⟨M, B, m1, e1⟩ := Q220 R hx hh F a0 a1
 obtain ⟨M', B', m2, e2⟩ := Q220 R' hx' hh' F a0 (show a < n + 1 by omega)
 rw [Q259 (n + 1) n holds' holds next' next, m1] at m2
 obtain rfl : M = M' := congrArg Prod.fst (Option.some.inj m2)
 have hI := (iter_same (b1 := fun t_ : (List (Q2 × Int)) × (List Q2) × (List Int) × (List Int) × (List (List Int)) × Int => Q20.l0b (n + 1) holds' next' f w rk t_.1 t_.2.1 t_.2.2.1 t_.2.2.2.1 t_.2.2.2.2.1 t_.2.2.2.2.2)
  (b2 := fun t_ : (List (Q2 × Int)) × (List Q2) × (List Int) × (List Int) × (List (List Int)) × Int => Q20.l0b n holds next f w rk t_.1 t_.2.1 t_.2.2.1 t_.2.2.2.1 t_.2.2.2.2.1 t_.2.2.2.2.2)
  (fun t_ => BI n (nxl hx) (hol hh) f to rk ⟨a, (f.length : Int) - 1⟩ t_.1 t_.2.1 t_.2.2.1 t_.2.2.2.1 t_.2.2.2.2.1 t_.2.2.2.2.2 ∧ BI (n + 1) (nxl hx') (hol hh') f to rk ⟨a, (f.length : Int) - 1⟩ t_.1 t_.2.1 t_.2.2.1 t_.2.2.2.1 t_.2.2.2.2.1 t_.2.2.2.2.2)
  (fun t_ => (200 - t_.2.2.2.2.2).toNat) (fun ⟨M, L, O, P, Ms, i⟩ ⟨h, h'⟩ => by
   dsimp only at h h' ⊢
   have i0 := h.i0
   have i2 := h.i2
   rcases Q179 R hx hh F h with ⟨r1, hi⟩ | ⟨r1, h2⟩ | ⟨M1, L1, ms1, r1, i3, lay1, hi, hl, h3⟩
   ·rcases Q179 R' hx' hh' F h' with ⟨r2, hi'⟩ | ⟨r2, h2'⟩ | ⟨M2, L2, ms2, r2, i3', lay2, hi', hl', h3'⟩
    ·exact .inl ⟨_, r2, r1⟩
    ·omega
    ·exact absurd hi' hi
   ·rcases Q179 R' hx' hh' F h' with ⟨r2, hi'⟩ | ⟨r2, h2'⟩ | ⟨M2, L2, ms2, r2, i3', lay2, hi', hl', h3'⟩
    ·omega
    ·exact .inl ⟨_, r2, r1⟩
    ·omega
   ·rcases Q179 R' hx' hh' F h' with ⟨r2, hi'⟩ | ⟨r2, h2'⟩ | ⟨M2, L2, ms2, r2, i3', lay2, hi', hl', h3'⟩
    ·exact absurd hi hi'
    ·omega
    ·right
     have hk := h.keys _ (Q43 i0 hi)
     have hs := hk.1.2
     have eT : tT (nxl hx') f to (gt L i) = tT (nxl hx) f to (gt L i) := by
      unfold tT
      rw [be_nxl hx hx' hs]
     have eP : tP (nxl hx') (hol hh') f rk (gt L i) = tP (nxl hx) (hol hh) f rk (gt L i) := by
      unfold tP
      rw [be_nxl hx hx' hs, be_hol hh hh']
     rw [eT, eP, lay_same (n + 1) n holds' holds next' next, lay1] at lay2
     have q := Option.some.inj lay2
     simp only [Prod.mk.injEq] at q
     obtain ⟨q1, _, _, rfl, rfl⟩ := q
     have q2 : ms1 = ms2 := by
      have := List.append_cancel_left q1
      simpa using this
     subst q2
     rw [eP] at r2 h3'
     exact ⟨_, r2, r1, ⟨h3, h3'⟩, by dsimp only; omega⟩) (M, [⟨a, (f.length : Int) - 1⟩], [], [], [], 0) ⟨B, B'⟩)
 have hI' : Q20.l0 (n + 1) holds' next' f w rk M [⟨a, (f.length : Int) - 1⟩] [] [] [] 0 = Q20.l0 n holds next f w rk M [⟨a, (f.length : Int) - 1⟩] [] [] [] 0 := hI
 rw [e1, e2, hI']
theorem Q302 (n : Int) (x : List Bs) (y : List Q3) (z : List Q5) (f : List Q0) (a : Int) (hs : ∀ p ∈ z, (p.States.length : Int) ≤ 9223372036854775807) (hf : ∀ n ∈ f, (n.Name.length : Int) ≤ 9223372036854775807) (hz : (0 + f.length) * 48 ≤ 140737488355328) : Q153.f n x y z f a = some true := by
 unfold Q153.f
 rw [Q328, Option.bind_some]
 by_cases R : RightS n x y z
 rotate_left
 ·rw [new_none hs R]
  simp only [Option.bind_some, if_true, Option.isNone_none, Q12]
 obtain ⟨holds, next, hN, hx, hh⟩ := new_nx hs R
 have n0 := R.n0
 have n1 := R.n1
 simp only [hN, Option.bind_some, if_true, Option.isNone_some, Q12, Bool.false_eq_true, if_false, Option.getD_some]
 by_cases c1 : 24 ≤ n
 ·simp only [decide_eq_true c1, if_true, Q12]
 by_cases c2 : a = n
 ·simp only [decide_eq_false c1, decide_eq_true c2, Bool.false_eq_true, if_false, if_true, Q12]
 by_cases c3 : 200 ≤ (y.length : Int)
 ·simp only [decide_eq_false c1, decide_eq_false c2, decide_eq_true c3, Bool.false_eq_true, if_false, if_true, Q12]
 simp only [decide_eq_false c1, decide_eq_false c2, decide_eq_false c3, Bool.false_eq_true, if_false, Q12]
 have R' := be_right R (by omega) (by omega)
 obtain ⟨holds', next', hN', hx', hh'⟩ := new_nx hs R'
 have hw : IntKind.i64.wrap (n + 1) = n + 1 := wrap64 (by omega) (by omega)
 have fin : ((Q16.f (IntKind.i64.wrap (n + 1)) x (beE n x y) z).bind fun t1297 =>
  if t1297.isNone = true then some false
  else (Q20.f n holds next f a).bind fun t1313 =>
   (Q20.f ((t1297.getD default).states) ((t1297.getD default).holds) ((t1297.getD default).next) f a).bind fun t1346 =>
    (Q51.f t1313.2.2.2.1 t1313.2.2.1 t1313.2.1 t1313.1 t1346.2.2.2.1 t1346.2.2.1 t1346.2.1 t1346.1).bind fun t1417 =>
     jn (if t1313.2.2.2.2 = t1346.2.2.2.2 then some (.inl t1417) else some (.inl false)) (fun (x1619 : Bool) => some x1619)) = some true := by
  rw [hw, hN', Option.bind_some]
  simp only [Option.isNone_some, Bool.false_eq_true, if_false, Option.getD_some]
  have hnil : Q51.f [] [] [] [] [] [] [] [] = some true := Q263 [] [] [] [] (by simp) (by simp) (by simp) (by simp) (fun i i0 i1 => by simp at i1; omega)
  rcases take_run f hf hz n a with h | ⟨to, w, rk, F, a0, a1⟩
  ·have h' : Q53.f f = some false ∨ a < 0 ∨ n + 1 ≤ a := by
    rcases h with h | h | h
    ·exact .inl h
    ·exact .inr (.inl h)
    ·exact .inr (.inr (by omega))
   rw [Q273 hf hz h, Q273 hf hz h']
   simp only [Option.bind_some, hnil, if_true, Q12]
  ·rw [be_build R hx hh R' hx' hh' F a0 a1]
   rcases board_run R hx hh F a0 a1 with ⟨h, _⟩ | ⟨K, Ms, P, O, h, D⟩
   ·rw [h]
    simp only [Option.bind_some, hnil, if_true, Q12]
   ·rw [h]
    have l2 := D.l2
    have lO := D.lO
    have lP := D.lP
    have lM := D.lM
    simp only [Option.bind_some, Q263 O P Ms K (by omega) (by omega) (by omega) (by omega) (fun i i0 i1 => by
     have h1 := (D.mv i i0 (by omega)).len
     have h2 := (tT_ok F.po (nxl_ok R hx) (D.keys _ (Q43 i0 (by omega)))).2.2.1
     omega), if_true, Q12]
 unfold beE at fin
 by_cases hx0 : 0 < (x.length : Int)
 ·rw [if_pos hx0] at fin ⊢
  rw [if_pos (by simp; omega), if_pos (by simp; omega), Q12]
  exact fin
 ·rw [if_neg hx0] at fin ⊢
  rw [Q12]
  exact fin
end
end Go.Bw
namespace Go.Bw
open Go Go.RowKit Go.ChangeShapes Go.WideShapes Go.Deep
section
variable {P : Program} {α β γ δ ε : Type}
theorem Q305 {H : Type} {enc : TypeId × Value → H} {w : World} {base : Nat} {spare : TypeId → Bool} {held : Bool} {t : TypeId} {f0 f1 f2 f3 f4 : Field} {fuel : Nat} {cs : List Value} {x : DataW H × List MemPlace} (ht : P.underlying t = some (.struct #[f0, f1, f2, f3, f4])) (h : DataW.trod enc P w base spare held fuel t cs = some x) :
 ∃ y0 y1 y2 y3 y4 n, x = (.agg [y0.1, y1.1, y2.1, y3.1, y4.1], y0.2 ++ (y1.2 ++ (y2.2 ++ (y3.2 ++ y4.2)))) ∧ cs.length = P.cellsOf t ∧ DataW.trod enc P w base spare held n f0.type ((cs.drop f0.offset).take (P.cellsOf f0.type)) = some y0 ∧
  DataW.trod enc P w base spare held n f1.type ((cs.drop f1.offset).take (P.cellsOf f1.type)) = some y1 ∧ DataW.trod enc P w base spare held n f2.type ((cs.drop f2.offset).take (P.cellsOf f2.type)) = some y2 ∧
  DataW.trod enc P w base spare held n f3.type ((cs.drop f3.offset).take (P.cellsOf f3.type)) = some y3 ∧ DataW.trod enc P w base spare held n f4.type ((cs.drop f4.offset).take (P.cellsOf f4.type)) = some y4 := by
 obtain ⟨xs, n, _, rfl, hl, hlen, hf⟩ := DataW.trod_struct ht h
 match xs, hlen with
 | [y0, y1, y2, y3, y4], _ => exact ⟨y0, y1, y2, y3, y4, n, by simp, hl, by simpa using hf 0 f0 rfl, by simpa using hf 1 f1 rfl, by simpa using hf 2 f2 rfl, by simpa using hf 3 f3 rfl, by simpa using hf 4 f4 rfl⟩
theorem OpensZ.st5 {T : Rep α} {U : Rep β} {V : Rep γ} {X : Rep δ} {Y : Rep ε} {S Z : α → Prop} {S' Z' : β → Prop} {S'' Z'' : γ → Prop} {S3 Z3 : δ → Prop} {S4 Z4 : ε → Prop} {t : Nat} {f0 f1 f2 f3 f4 : Field} (ht : P.underlying t = some (.struct #[f0, f1, f2, f3, f4])) (o0 : OpensZ P T f0.type S Z) (o1 : OpensZ P U f1.type S' Z') (o2 : OpensZ P V f2.type S'' Z'') (o3 : OpensZ P X f3.type S3 Z3) (o4 : OpensZ P Y f4.type S4 Z4)
 (h0 : f0.offset = 0) (h1 : f1.offset = T.sz) (h2 : f2.offset = T.sz + U.sz) (h3 : f3.offset = T.sz + (U.sz + V.sz)) (h4 : f4.offset = T.sz + (U.sz + (V.sz + X.sz))) (hc : P.cellsOf t = T.sz + (U.sz + (V.sz + (X.sz + Y.sz)))) :
 OpensZ P (T.pair (U.pair (V.pair (X.pair Y)))) t (fun p => S p.1 ∧ S' p.2.1 ∧ S'' p.2.2.1 ∧ S3 p.2.2.2.1 ∧ S4 p.2.2.2.2) (fun p => Z p.1 ∧ Z' p.2.1 ∧ Z'' p.2.2.1 ∧ Z3 p.2.2.2.1 ∧ Z4 p.2.2.2.2) := ⟨hc, fun fuel cs x h => by
 obtain ⟨y0, y1, y2, y3, y4, n, hx, hl, g0, g1, g2, g3, g4⟩ := Q305 ht h
 obtain ⟨a, ka, sa, za⟩ := o0.2 _ _ _ g0
 obtain ⟨b, kb, sb, zb⟩ := o1.2 _ _ _ g1
 obtain ⟨c, kc, sc, zc⟩ := o2.2 _ _ _ g2
 obtain ⟨d, kd, sd, zd⟩ := o3.2 _ _ _ g3
 obtain ⟨e, ke, se, ze⟩ := o4.2 _ _ _ g4
 rw [h0, o0.1, List.drop_zero] at ka
 rw [h1, o1.1] at kb
 rw [h2, o2.1, ← List.drop_drop] at kc
 rw [h3, o3.1, ← List.drop_drop, ← List.drop_drop] at kd
 rw [h4, o4.1, ← List.drop_drop, ← List.drop_drop, ← List.drop_drop] at ke
 have e1 : cs = cs.take T.sz ++ cs.drop T.sz := (List.take_append_drop _ _).symm
 have e2 : cs.drop T.sz = (cs.drop T.sz).take U.sz ++ (cs.drop T.sz).drop U.sz := (List.take_append_drop _ _).symm
 have e3 : (cs.drop T.sz).drop U.sz = ((cs.drop T.sz).drop U.sz).take V.sz ++ ((cs.drop T.sz).drop U.sz).drop V.sz := (List.take_append_drop _ _).symm
 have e4 := cut2 (cs := ((cs.drop T.sz).drop U.sz).drop V.sz) (a := X.sz) (b := Y.sz) (by simp; omega)
 exact ⟨(a, b, c, d, e), ⟨_, _, e1, ka, _, _, e2, kb, _, _, e3, kc, _, _, e4, kd, ke⟩, ⟨sa, sb, sc, sd, se⟩, fun hw => ⟨za fun w hq => (hw w (by rw [(Prod.mk.inj hx).1]; simp [DataW.weights, DataW.weightsEach, ht, hq])), zb fun w hq => (hw w (by rw [(Prod.mk.inj hx).1]; simp [DataW.weights, DataW.weightsEach, ht, hq])), zc fun w hq => (hw w (by rw [(Prod.mk.inj hx).1]; simp [DataW.weights, DataW.weightsEach, ht, hq])), zd fun w hq => (hw w (by rw [(Prod.mk.inj hx).1]; simp [DataW.weights, DataW.weightsEach, ht, hq])), ze fun w hq => (hw w (by rw [(Prod.mk.inj hx).1]; simp [DataW.weights, DataW.weightsEach, ht, hq]))⟩⟩⟩
end
end Go.Bw
namespace Go.Bw
open Go Go.RowKit Go.Proofs Go.ChangeShapes Go.WideShapes
abbrev laid64 : List (String × DataW Unit) := [("math/bits.deBruijn64tab", Go.Proofs.YtfbjkcnefhgodaaGreatDoor.Rows.laid_math_bits_deBruijn64tab)]
theorem Q300 {H : Type} : (Go.Proofs.YtfbjkcnefhgodaaGreatDoor.Rows.laid_math_bits_deBruijn64tab : DataW H) = .agg (Tryz.gtab0.map fun a => .lit (.int .u8 a)) := rfl
theorem Q341 : Tryz.prog.globalNamed "math/bits.deBruijn64tab" = some 0 := by kernel_rfl
theorem Q298 : (Tryz.prog.globals[0]?).map (·.type) = some 148 := by kernel_rfl
theorem Q310 (os : Os) (args : Array Value) : laidMetH Tryz.prog laid64 ((World.doorLaid Tryz.prog 31 os).forCall (fun _ _ => 0) ⟨#[], args, []⟩).memory :=
 laidMetH_of_parts3 (fuel := 8) (laidMet_of_run' 8 (by kernel_rfl) (by kernel_rfl)) (by kernel_rfl) (by kernel_rfl)
theorem laid64_rd {W : World} (h : laidMetH Tryz.prog laid64 W) : RdS (Fl.int .u8).rep (wh W) (some ⟨0, 0, none⟩) Tryz.gtab0 := by
 rw [MakeChecks.laidMetH_plain _ _ _ (by kernel_rfl)] at h
 obtain ⟨ps, ⟨g0, t0, cs0, f0, p0, q0, hg0, ht0, hv0, hd0, _, _⟩, _, _⟩ := h
 obtain rfl := Option.some.inj (Q341.symm.trans hg0)
 obtain rfl := Option.some.inj (Q298.symm.trans ht0)
 obtain ⟨xs, m1, rfl, hx1, hlen, hn3, hel⟩ := DataW.trod_array Tryz.underlying148 hd0
 have hx : xs.map (·.1) = Tryz.gtab0.map fun a => (DataW.lit (.int .u8 a) : DataW Unit) := by
  have h1 := (Prod.mk.inj hx1).1
  have h2 := (Q300 (H := Unit)).symm.trans h1
  exact (DataW.agg.inj h2).symm
 refine Q324 fun i hi => ?_
 have hgl : Tryz.gtab0.length = 64 := rfl
 have hi' : i < 64 := by omega
 have he := hel i hi'
 have hxi : i < xs.length := by omega
 rw [List.getElem?_eq_getElem hxi] at he
 obtain ⟨k, e1, e2, _⟩ := DataW.trod_int Tryz.underlying5 he
 obtain ⟨v, hv⟩ : ∃ v, Tryz.gtab0[i]? = some v := ⟨_, List.getElem?_eq_getElem hi⟩
 have h2 := congrArg (fun l => l[i]?) hx
 simp only [List.getElem?_map, List.getElem?_eq_getElem hxi, hv, Option.map_some, Option.some.injEq] at h2
 rw [e2] at h2
 have hk : k = v := by simpa using h2
 have c5 : Tryz.prog.cellsOf 5 = 1 := by kernel_rfl
 rw [c5, Nat.mul_one] at e1
 rw [World.var?_cell hg0 hv0 i]
 have hc : (cs0.toList.drop i)[0]? = some (.int .u8 k) := by
  cases hd : cs0.toList.drop i with
  | nil => rw [hd] at e1; simp at e1
  | cons a r => rw [hd] at e1; simp at e1; simp [e1]
 rw [List.getElem?_drop, Nat.add_zero] at hc
 rw [List.getD_eq_getElem?_getD, hv, Option.getD_some, ← hk]
 simpa using hc
end Go.Bw
namespace Go.Bw
open Go Go.RowKit Go.Proofs
theorem Q319 {n a : Int} {x : List Bs} {y : List Q3} {z : List Q5} {f : List Q0} (h : (Lit.int .i64 n).wf = true ∧ (x.length ≤ maxLen ∧ ∀ s ∈ x, s.length ≤ maxLen) ∧ (y.length ≤ maxLen ∧ ∀ e ∈ y, ((Lit.int .i64 e.From).wf = true ∧ (Lit.int .i64 e.Action).wf = true ∧ (Lit.int .i64 e.To).wf = true)) ∧
 (z.length ≤ maxLen ∧ ∀ p ∈ z, (p.Name.length ≤ maxLen ∧ (p.States.length ≤ maxLen ∧ ∀ s ∈ p.States, (Lit.int .i64 s).wf = true))))
 (w : True ∧ (x.length * Tryz.prog.bytesOf 9 ≤ reachBytes ∧ ∀ s ∈ x, True) ∧ (y.length * Tryz.prog.bytesOf 48 ≤ reachBytes ∧ ∀ e ∈ y, (True ∧ True ∧ True)) ∧ (z.length * Tryz.prog.bytesOf 41 ≤ reachBytes ∧ ∀ p ∈ z, (True ∧ (p.States.length * Tryz.prog.bytesOf 3 ≤ reachBytes ∧ ∀ s ∈ p.States, True))))
 (h2 : f.length ≤ maxLen ∧ ∀ e ∈ f, ((Lit.int .i64 e.Kind).wf = true ∧ (Lit.int .i64 e.A).wf = true ∧ (Lit.int .i64 e.B).wf = true ∧ e.Name.length ≤ maxLen ∧ (Lit.int .i64 e.At).wf = true))
 (w2 : f.length * Tryz.prog.bytesOf 33 ≤ reachBytes ∧ ∀ e ∈ f, (True ∧ True ∧ True ∧ True ∧ True)) (wa : (Lit.int .i64 a).wf = true) :
 Q153.f n x y z f a = some true := Q302 n x y z f a (fun p hp => by
 have h1 := (h.2.2.2.2 p hp).2.1
 have h2 : maxLen ≤ 9223372036854775807 := by decide
 omega) (fun p hp => by
 have h1 := (h2.2 p hp).2.2.2.1
 have h2 : maxLen ≤ 9223372036854775807 := by decide
 omega) (by
 have b : Tryz.prog.bytesOf 33 = 48 := by kernel_rfl
 have hr : reachBytes = 140737488351232 := rfl
 have := w2.1
 rw [b, hr] at this
 omega)
end Go.Bw
