/- DenoteMore, part 6: walks and plain laws. Conditions: none. -/
import Derived.Test.YtfbjkcnefhgodaaGreatDoorRows
import Derived.LaidMore
import Derived.ProofKit
import Derived.OpenShut
import Derived.Stop.Joined
import Derived.Test.YtfbjkcnefhgodaaGreatDoorBwDenoteMoreE
set_option linter.unusedVariables false
set_option linter.unusedSimpArgs false
set_option linter.unusedSectionVars false
set_option maxRecDepth 100000
set_option maxHeartbeats 2000000
namespace Go.Bw
open Go Go.RowKit
theorem equal_run {a b : List Int} (hn : a.length = b.length) (ha : (a.length : Int) ≤ 9223372036854775807) : Q48.f a b = some (decide (a = b)) := by
 unfold Q48.f
 rw [if_pos (by omega)]
 obtain ⟨r, hr, hq⟩ := Q68 (body := fun t_ : Int => Q48.l0b a b t_) (fun i => 0 ≤ i ∧ i ≤ (a.length : Int) ∧ ∀ j : Int, 0 ≤ j → j < i → gt a j = gt b j)
  (fun r => (r = .inl () ∧ a = b) ∨ (r = .inr false ∧ a ≠ b)) (fun i => ((a.length : Int) - i).toNat) (fun i ⟨h0, h1, h2⟩ => by
   unfold Q48.l0b
   by_cases hi : i < (a.length : Int)
   ·rw [if_pos hi, if_pos ⟨h0, hi⟩, if_pos ⟨h0, by omega⟩]
    by_cases he : gt a i = gt b i
    ·right
     rw [if_pos he, wrap64 (x := i + 1) (by omega) (by omega)]
     refine ⟨_, rfl, ⟨by omega, by omega, fun j j0 j1 => ?_⟩, by omega⟩
     by_cases hj : j = i
     ·subst hj; exact he
     ·exact h2 j j0 (by omega)
    ·left
     rw [if_neg he]
     exact ⟨_, rfl, .inr ⟨rfl, fun e => he (by rw [e])⟩⟩
   ·left
    rw [if_neg hi]
    exact ⟨_, rfl, .inl ⟨rfl, ext_gt hn fun k hk => h2 k (by omega) (by omega)⟩⟩) 0 ⟨Int.le_refl _, by omega, fun j h0 h1 => by omega⟩
 have hl : Q48.l0 a b 0 = some r := hr
 rcases hq with ⟨rfl, h⟩ | ⟨rfl, h⟩
 ·rw [hl, Q13, decide_eq_true h]
 ·rw [hl, decide_eq_false h]; rfl
end Go.Bw
namespace Go.Bw
open Go Go.RowKit

theorem Q135 {α : Type} {c : Prop} [Decidable c] {x y : Option α} (h1 : c → ∃ r, x = some r) (h2 : ¬ c → ∃ r, y = some r) : ∃ r, (if c then x else y) = some r := by
 split
 ·exact h1 ‹_›
 ·exact h2 ‹_›
theorem Q255 (a : Bs) (ha : (a.length : Int) ≤ 9223372036854775807) (lo hi : Int) : ∃ b, Q44.f a lo hi = some b := by
 unfold Q44.f
 by_cases h1 : (a.length : Int) < 1
 ·simp only [if_pos h1, Q13, if_true]; exact ⟨_, rfl⟩
 by_cases h2 : 8 < (a.length : Int)
 ·simp only [if_neg h1, Q13, if_true, decide_eq_true h2]; exact ⟨_, rfl⟩
 simp only [if_neg h1, Q13, decide_eq_false h2, Bool.false_eq_true, if_false]
 have h0 : (0 : Int) ≤ 0 ∧ 0 < (a.length : Int) := by omega
 refine Q156 (Q135 (fun _ => ⟨_, rfl⟩) fun h => absurd h0 h) fun x => Q156 (Q135 (fun _ => ⟨_, rfl⟩) fun _ => Q135 (fun _ => ⟨_, rfl⟩) fun h => absurd h0 h) fun x => Q135 (fun _ => ⟨_, rfl⟩) fun _ => ?_
 refine jn_true (up_loop (body := fun t_ : Int => Q44.l0b a t_) (N := a.length) (Q := fun _ => True) ha 0 (by decide) fun i hi => ?_)
 unfold Q44.l0b
 by_cases h1 : i < (a.length : Int)
 ·rw [if_pos h1, if_pos ⟨hi, h1⟩]
  simp only [jn_ite, Q13]
  repeat' split
  all_goals first
   | exact .inl ⟨_, rfl, trivial⟩
   | exact .inr ⟨h1, rfl⟩
 ·rw [if_neg h1]; exact .inl ⟨_, rfl, trivial⟩
theorem word_run (a : Bs) : ∃ b, Q96.f a = some b := by
 unfold Q96.f
 refine Q156 (Q135 (fun _ => ⟨_, rfl⟩) fun _ => ⟨_, rfl⟩) fun x => Q156 (Q135 (fun _ => ⟨_, rfl⟩) fun _ => ⟨_, rfl⟩) fun x => Q156 (Q135 (fun _ => ⟨_, rfl⟩) fun _ => ⟨_, rfl⟩) fun x => ⟨_, rfl⟩
theorem name_run2 (a : Bs) (ha : (a.length : Int) ≤ 9223372036854775807) : ∃ b, Q92.f a = some b := by
 unfold Q92.f
 obtain ⟨b, hb⟩ := Q255 a ha 97 122
 rw [hb, Option.bind_some]
 obtain ⟨c, hc⟩ := word_run a
 refine Q156 (Q135 (fun _ => ?_) fun _ => ⟨_, rfl⟩) fun x => ⟨_, rfl⟩
 rw [hc]
 exact ⟨_, rfl⟩
theorem Q291 (a : Bs) (ha : (a.length : Int) ≤ 9223372036854775807) : ∃ b, Q98.f a = some b := by
 unfold Q98.f
 obtain ⟨b, hb⟩ := Q255 a ha 65 90
 rw [hb]
 exact ⟨_, rfl⟩
def Arity (K k : Int) : Prop := (K = 1 ∨ K = 2 ∨ K = 3 ∨ K = 4) ∧ k = 0 ∨ K = 5 ∧ k = 1 ∨ Modal K ∧ k = 1 ∨ Fixy K ∧ k = 1 ∨ Twoy K ∧ k = 2
theorem below_run (K A B At : Int) (a : Bs) (ha : (a.length : Int) ≤ 9223372036854775807) : ∃ b k, Q120.f K A B a At = some (b, k) ∧ 0 ≤ k ∧ k ≤ 2 ∧ (b = true → Arity K k) := by
 obtain ⟨b1, h1⟩ := name_run2 a ha
 obtain ⟨b2, h2⟩ := Q291 a ha
 unfold Q120.f Arity Modal Fixy Twoy
 rw [h1, h2]
 simp only [Option.bind_some]
 by_cases k1 : K = 1
 ·subst k1; exact ⟨bseq a [], 0, by simp [Q13], by omega, by omega, by simp⟩
 by_cases k2 : K = 2
 ·subst k2; exact ⟨bseq a [], 0, by simp [Q13], by omega, by omega, by simp⟩
 by_cases k3 : K = 3
 ·subst k3; exact ⟨b1, 0, by simp [Q13], by omega, by omega, by simp⟩
 by_cases k4 : K = 4
 ·subst k4; exact ⟨b2, 0, by simp [Q13], by omega, by omega, by simp⟩
 by_cases k5 : K = 5
 ·subst k5; exact ⟨bseq a [], 1, by simp [Q13], by omega, by omega, by simp⟩
 by_cases k8 : K = 8
 ·subst k8
  by_cases hx : bseq a [45] = true
  ·exact ⟨true, 1, by simp [hx, Q13], by omega, by omega, by simp⟩
  ·exact ⟨b1, 1, by simp [hx, Q13], by omega, by omega, by simp⟩
 by_cases k9 : K = 9
 ·subst k9
  by_cases hx : bseq a [45] = true
  ·exact ⟨true, 1, by simp [hx, Q13], by omega, by omega, by simp⟩
  ·exact ⟨b1, 1, by simp [hx, Q13], by omega, by omega, by simp⟩
 by_cases k10 : K = 10
 ·subst k10; exact ⟨b2, 1, by simp [Q13], by omega, by omega, by simp⟩
 by_cases k11 : K = 11
 ·subst k11; exact ⟨b2, 1, by simp [Q13], by omega, by omega, by simp⟩
 by_cases k6 : K = 6
 ·subst k6; exact ⟨bseq a [], 2, by simp [Q13], by omega, by omega, by simp⟩
 by_cases k7 : K = 7
 ·subst k7; exact ⟨bseq a [], 2, by simp [Q13], by omega, by omega, by simp⟩
 exact ⟨false, 0, by simp [k1, k2, k3, k4, k5, k6, k7, k8, k9, k10, k11, Q13], by omega, by omega, by simp⟩
theorem Q312 (a : List Int) (ha : (a.length : Int) ≤ 9223372036854775807) : ∃ b, Q118.f a = some b := by
 unfold Q118.f Q54.f
 obtain ⟨b, hb⟩ := jn_int (up_loop (body := fun t_ : Int => Q54.l0b a t_) (N := a.length) (Q := fun _ => True) ha 0 (by decide) fun i hi => by
  unfold Q54.l0b Q137.f
  by_cases h1 : i < (a.length : Int)
  ·rw [if_pos h1, if_pos (by omega)]
   simp only [Option.bind_some]
   split
   ·exact .inl ⟨_, rfl, trivial⟩
   ·exact .inr ⟨h1, rfl⟩
  ·rw [if_neg h1]; exact .inl ⟨_, rfl, trivial⟩)
 have hb' : jn (Q54.l0 a 0) (fun (_ : Unit) => some (-1)) = some b := hb
 rw [hb']
 exact ⟨_, rfl⟩
def Ch (f : List Q1) : Int → List Int → Int → Prop
 | p, [], e => p = e
 | p, s :: r, e => Sb f p s ∧ Ch f (s + 1) r e
theorem Ch.app {f : List Q1} : ∀ {a b : List Int} {p e : Int}, Ch f p (a ++ b) e ↔ ∃ q, Ch f p a q ∧ Ch f q b e
 | [], b, p, e => by simp [Ch]
 | s :: a, b, p, e => by
  simp only [List.cons_append, Ch, Ch.app (a := a)]
  constructor
  ·rintro ⟨h, q, h1, h2⟩; exact ⟨q, ⟨h, h1⟩, h2⟩
  ·rintro ⟨q, ⟨h, h1⟩, h2⟩; exact ⟨h, q, h1, h2⟩
theorem Ch.len {f : List Q1} : ∀ {a : List Int} {p e : Int}, Ch f p a e → (a.length : Int) ≤ e - p
 | [], p, e, h => by simp [Ch] at h; simp [h]
 | s :: a, p, e, h => by
  have := h.1.le
  have := Ch.len h.2
  simp
  omega
theorem Q308 (f : List Q1) (hs : ∀ n ∈ f, (n.Name.length : Int) ≤ 9223372036854775807) : ∃ b, Q40.f f = some b ∧ (b = true → 1 ≤ f.length ∧ f.length ≤ 60 ∧ Sb f 0 ((f.length : Int) - 1)) := by
 unfold Q40.f
 by_cases h1 : (f.length : Int) < 1
 ·simp only [if_pos h1, Q13, if_true]; exact ⟨_, rfl, by simp⟩
 by_cases h2 : 60 < (f.length : Int)
 ·simp only [if_neg h1, Q13, if_true, decide_eq_true h2]; exact ⟨_, rfl, by simp⟩
 simp only [if_neg h1, Q13, decide_eq_false h2, Bool.false_eq_true, if_false]
 obtain ⟨r, hr, hq⟩ := Q68 (body := fun t_ : (List Int) × Int => Q40.l0b f t_.1 t_.2) (fun s => 0 ≤ s.2 ∧ s.2 ≤ (f.length : Int) ∧ Ch f 0 s.1 s.2)
  (fun r => (∃ s, r = .inl s ∧ Ch f 0 s f.length) ∨ r = .inr false) (fun s => ((f.length : Int) - s.2).toNat) (fun ⟨S, i⟩ ⟨i0, i1, hc⟩ => by
   dsimp only at i0 i1 hc ⊢
   have hl := hc.len
   unfold Q40.l0b
   by_cases hi : i < (f.length : Int)
   rotate_left
   ·left
    rw [if_neg hi]
    exact ⟨_, rfl, .inl ⟨S, rfl, by rwa [show (f.length : Int) = i by omega]⟩⟩
   obtain ⟨b, k, hb, k0, k2, hk⟩ := below_run (gt f i).Kind (gt f i).A (gt f i).B (gt f i).At (gt f i).Name (hs _ (Q105 i0 hi))
   rw [if_pos hi, if_pos ⟨i0, hi⟩, hb, Option.bind_some]
   dsimp only
   cases b with
   | false => left; simp only [Bool.false_eq_true, if_false, Q13, if_true]; exact ⟨_, rfl, .inr rfl⟩
   | true =>
   simp only [if_true, Q13]
   by_cases hSk : (S.length : Int) < k
   ·left; simp only [decide_eq_true hSk, if_true]; exact ⟨_, rfl, .inr rfl⟩
   rw [decide_eq_false hSk]
   simp only [Bool.false_eq_true, if_false]
   obtain ⟨c, hcn⟩ := Q312 (([(gt f i).A, (gt f i).B] : List Int).drop k.toNat) (by simp; omega)
   rw [if_pos (by simp; omega), hcn, Option.bind_some]
   cases c with
   | true => left; simp only [if_true, Q13]; exact ⟨_, rfl, .inr rfl⟩
   | false =>
   rw [wrap64 (x := (S.length : Int) - k) (by omega) (by omega), if_neg (by simp), if_pos (by omega), equal_run (by simp; omega) (by simp; omega), Option.bind_some, Q13]
   by_cases he : S.drop ((S.length : Int) - k).toNat = ([(gt f i).A, (gt f i).B] : List Int).take k.toNat
   rotate_left
   ·left; simp only [decide_eq_false he, Bool.not_false, if_true]; exact ⟨_, rfl, .inr rfl⟩
   right
   simp only [decide_eq_true he, Bool.not_true, Bool.false_eq_true, if_false]
   rw [if_pos (by omega), if_pos (by simp; omega), wrap64 (x := i + 1) (by omega) (by omega)]
   refine ⟨_, rfl, ⟨by dsimp only; omega, by dsimp only; omega, ?_⟩, by dsimp only; omega⟩
   dsimp only
   have hSS : S = S.take ((S.length : Int) - k).toNat ++ ([(gt f i).A, (gt f i).B] : List Int).take k.toNat := by rw [← he, List.take_append_drop]
   rw [hSS] at hc
   obtain ⟨q, hc1, hc2⟩ := Ch.app.1 hc
   refine Ch.app.2 ⟨q, hc1, ?_⟩
   have key : Sb f q i → Ch f q [i] (i + 1) := fun h => ⟨h, rfl⟩
   apply key
   rcases hk rfl with ⟨hK, rfl⟩ | ⟨hK, rfl⟩ | ⟨hK, rfl⟩ | ⟨hK, rfl⟩ | ⟨hK, rfl⟩
   ·simp [Ch] at hc2
    subst hc2
    exact .leaf i0 hi (by unfold Leafy; omega)
   ·simp [Ch] at hc2
    exact .not hi hK (by omega) (by rw [show i - 1 = (gt f i).A by omega]; exact hc2.1)
   ·simp [Ch] at hc2
    exact .modal hi hK (by omega) (by rw [show i - 1 = (gt f i).A by omega]; exact hc2.1)
   ·simp [Ch] at hc2
    exact .fix hi hK (by omega) (by rw [show i - 1 = (gt f i).A by omega]; exact hc2.1)
   ·simp [Ch] at hc2
    exact .two hi hK rfl (by omega) hc2.1 (by rw [show i - 1 = (gt f i).B by omega]; exact hc2.2.1)) ([], 0) ⟨by decide, by dsimp only; omega, rfl⟩
 have hr' : Q40.l0 f [] 0 = some r := hr
 rw [hr']
 rcases hq with ⟨s, rfl, hc⟩ | rfl
 ·refine ⟨_, rfl, fun hb => ⟨by omega, by omega, ?_⟩⟩
  match s, hc, of_decide_eq_true hb with
  | [a], hc, _ =>
   have : a + 1 = f.length := hc.2
   rw [show (f.length : Int) - 1 = a by omega]
   exact hc.1
  | [], _, h => simp at h
  | a :: b :: s, _, h => simp at h; omega
 ·exact ⟨_, rfl, by simp⟩
end Go.Bw
namespace Go.Bw
open Go Go.RowKit

def Ev {ρ : Type} (N : Nat → Option ρ) (r : ρ) : Prop := ∃ d, ∀ k, N k = some r ∨ (k < d ∧ N k = none)
theorem Ev.recF {ρ : Type} {N : Nat → Option ρ} {r : ρ} (h : Ev N r) : Bw.recF N = some r := by
 obtain ⟨d, h⟩ := h
 have hd : (N d).isSome = true := by rcases h d with e | e <;> first | (simp [e]; done) | omega
 obtain ⟨r', h1, h2⟩ := recF_of (n := N) (Q := fun x => x = r) ⟨d, hd⟩ (fun k x hx => by rcases h k with h | h <;> rw [hx] at h <;> simp_all)
 rw [h1, h2]
theorem Ev.const {ρ : Type} (r : ρ) : Ev (fun _ => some r) r := ⟨0, fun _ => .inl rfl⟩
theorem Ev.succ {ρ : Type} {N M : Nat → Option ρ} {r : ρ} (h0 : N 0 = none) (h : ∀ k, N (k + 1) = M k) (e : Ev M r) : Ev N r := by
 obtain ⟨d, e⟩ := e
 refine ⟨d + 1, fun k => ?_⟩
 cases k with
 | zero => exact .inr ⟨by omega, h0⟩
 | succ k =>
  rw [h]
  rcases e k with e | e
  ·exact .inl e
  ·exact .inr ⟨by omega, e.2⟩
theorem Ev.bind {α ρ : Type} {M : Nat → Option α} {F : Nat → α → Option ρ} {a : α} {r : ρ} (e : Ev M a) (g : Ev (fun k => F k a) r) : Ev (fun k => (M k).bind (F k)) r := by
 obtain ⟨d, e⟩ := e
 obtain ⟨d', g⟩ := g
 refine ⟨d + d', fun k => ?_⟩
 rcases e k with e | e
 ·dsimp only
  rw [e, Option.bind_some]
  rcases g k with g | g
  ·exact .inl g
  ·exact .inr ⟨by omega, g.2⟩
 ·exact .inr ⟨by omega, by dsimp only; rw [e.2]; rfl⟩
theorem Bd.wide {f : List Q1} {to : List Int} {sc : List (Int × Bool)} {l n : Int} (b : Bd f to sc l n) : ∀ {sc' : List (Int × Bool)}, (∀ p ∈ sc, p ∈ sc') → Bd f to sc' l n := by
 induction b with
 | var h0 h1 hk hs => exact fun h => .var h0 h1 hk (h _ hs)
 | leaf h0 h1 hk h4 => exact fun h => .leaf h0 h1 hk h4
 | not h1 hk ha s ih => exact fun h => .not h1 hk ha (ih fun p hp => by
  obtain ⟨q, hq, rfl⟩ := List.mem_map.1 hp
  exact List.mem_map.2 ⟨q, h q hq, rfl⟩)
 | modal h1 hk ha s ih => exact fun h => .modal h1 hk ha (ih h)
 | fix h1 hk ha s ih => exact fun h => .fix h1 hk ha (ih fun p hp => by
  rcases List.mem_cons.1 hp with rfl | hp
  ·exact List.mem_cons_self
  ·exact List.mem_cons_of_mem _ (h p hp))
 | two h1 hk ha hb s t ih1 ih2 => exact fun h => .two h1 hk ha hb (ih1 h) (ih2 h)
theorem Bd.congr {f : List Q1} {to to' : List Int} {sc : List (Int × Bool)} {l n : Int} (b : Bd f to sc l n) : (∀ v, l ≤ v → v ≤ n → gt to' v = gt to v) → Bd f to' sc l n := by
 induction b with
 | var h0 h1 hk hs => exact fun h => .var h0 h1 hk (by rw [h _ (Int.le_refl _) (Int.le_refl _)]; exact hs)
 | leaf h0 h1 hk h4 => exact fun h => .leaf h0 h1 hk h4
 | not h1 hk ha s ih => exact fun h => .not h1 hk ha (ih fun v h0 h1 => h v h0 (by omega))
 | modal h1 hk ha s ih => exact fun h => .modal h1 hk ha (ih fun v h0 h1 => h v h0 (by omega))
 | fix h1 hk ha s ih => exact fun h => .fix h1 hk ha (ih fun v h0 h1 => h v h0 (by omega))
 | two h1 hk ha hb s t ih1 ih2 =>
  have := s.le
  have := t.le
  exact fun h => .two h1 hk ha hb (ih1 fun v h0 h1 => h v h0 (by omega)) (ih2 fun v h0 h1 => h v (by omega) (by omega))
theorem find_run (f : List Q1) (S : List Q16) (nots : Int) (to : List Int) (odd : List Bool) (dep : List Int) (a : Bs) (hS : ∀ p ∈ S, 0 ≤ p.node ∧ p.node < (f.length : Int)) (hl : (S.length : Int) ≤ 1000) :
 ∃ r, Q52.f f S nots to odd dep a = some r ∧ (r = (false, 0, 0) ∨ ∃ p ∈ S, r = (true, p.node, p.nots)) := by
 unfold Q52.f
 obtain ⟨r, hr, hq⟩ := Q68 (body := fun t_ : Int => Q52.l0b f S a t_) (fun i => -1 ≤ i ∧ i < (S.length : Int))
  (fun r => r = .inl () ∨ ∃ p ∈ S, r = .inr (true, p.node, p.nots)) (fun i => (i + 1).toNat) (fun i ⟨h0, h1⟩ => by
   unfold Q52.l0b
   by_cases hi : 0 ≤ i
   ·have hm := Q105 hi h1
    rw [if_pos hi, if_pos ⟨hi, h1⟩, if_pos (hS _ hm)]
    split
    ·exact .inl ⟨_, rfl, .inr ⟨_, hm, rfl⟩⟩
    ·rw [wrap64 (x := i - 1) (by omega) (by omega)]
     exact .inr ⟨_, rfl, by omega, by omega⟩
   ·rw [if_neg hi]; exact .inl ⟨_, rfl, .inl rfl⟩) ((S.length : Int) - 1) (by omega)
 have hr' : Q52.l0 f S a ((S.length : Int) - 1) = some r := hr
 rw [wrap64 (by omega) (by omega), hr']
 rcases hq with rfl | ⟨p, hp, rfl⟩
 ·exact ⟨_, rfl, .inl rfl⟩
 ·exact ⟨_, rfl, .inr ⟨p, hp, rfl⟩⟩
def scp (nots : Int) (p : Q16) : Int × Bool := (p.node, decide ((nots - p.nots) % 2 = 0))
theorem scp_flip (nots : Int) (S : List Q16) : S.map (scp (nots + 1)) = (S.map (scp nots)).map fun p => (p.1, !p.2) := by
 rw [List.map_map]
 apply List.map_congr_left
 intro p _
 simp only [scp, Function.comp]
 congr 1
 rw [Bool.eq_iff_iff]
 simp
 omega
structure Wk (f : List Q1) (l n nots : Int) (S : List Q16) (to : List Int) (odd : List Bool) (dep : List Int) (to' : List Int) (odd' : List Bool) (dep' : List Int) : Prop where
 l1 : to'.length = f.length
 l2 : odd'.length = f.length
 l3 : dep'.length = f.length
 fr : ∀ m, 0 ≤ m → m < l ∨ n < m → gt to' m = gt to m ∧ gt odd' m = gt odd m
 bd : (∀ m, l ≤ m → m ≤ n → (gt f m).Kind = 4 → 0 ≤ gt to' m ∧ gt odd' m = false) → (∀ m, l ≤ m → m ≤ n → gt to m = -1) → Bd f to' (S.map (scp nots)) l n
theorem walk_run {f : List Q1} (hf : f.length ≤ 60) {l n : Int} (s : Sb f l n) : ∀ (S : List Q16) (nots : Int) (to : List Int) (odd : List Bool) (dep : List Int), to.length = f.length → odd.length = f.length → dep.length = f.length →
 (∀ p ∈ S, 0 ≤ p.node ∧ p.node < (f.length : Int) ∧ 0 ≤ p.nots ∧ p.nots ≤ nots) → 0 ≤ nots → nots + (n - l) ≤ 100 → (S.length : Int) + (n - l) ≤ 100 →
 ∃ to' odd' dep', Ev (fun k => Q24.n k f S nots to odd dep n) (odd', to', S, dep', nots) ∧ Wk f l n nots S to odd dep to' odd' dep' := by
 induction s with
 | @leaf n h0 h1 hk =>
  intro S nots to odd dep e1 e2 e3 hS hn hn2 hl
  by_cases k4 : (gt f n).Kind = 4
  ·obtain ⟨r, hr, hq⟩ := find_run f S nots to odd dep (gt f n).Name (fun p hp => ⟨(hS p hp).1, (hS p hp).2.1⟩) (by omega)
   rcases hq with rfl | ⟨p, hp, rfl⟩
   ·refine ⟨to, odd, dep, Ev.succ rfl (fun k => rfl) ?_, e1, e2, e3, fun _ _ _ => ⟨rfl, rfl⟩, fun ha hb => ?_⟩
    ·simp only [Q24.n, Q24.g, if_pos (And.intro h0 h1), if_pos k4, hr, Option.bind_some, Bool.false_eq_true, if_false]
     exact Ev.const _
    ·have := (ha n (by omega) (by omega) k4).1
     have := hb n (by omega) (by omega)
     omega
   ·have hp' := hS p hp
    refine ⟨st to n p.node, st odd n (!(decide (Int.tmod (nots - p.nots) 2 = 0))), dep, Ev.succ rfl (fun k => rfl) ?_, by rw [Q102, e1], by rw [Q102, e2], e3, fun m hm h => ?_, fun ha hb => ?_⟩
    ·simp only [Q24.n, Q24.g, if_pos (And.intro h0 h1), if_pos k4, hr, Option.bind_some, if_true, e1, e2]
     rw [wrap64 (x := nots - p.nots) (by omega) (by omega)]
     exact Ev.const _
    ·rw [Q90 h0 (by omega) hm, Q90 h0 (by omega) hm, if_neg (by omega), if_neg (by omega)]
     exact ⟨rfl, rfl⟩
    ·have := (ha n (by omega) (by omega) k4).2
     rw [Q90 h0 (by omega) h0, if_pos rfl] at this
     refine .var h0 h1 k4 ?_
     rw [Q90 h0 (by omega) h0, if_pos rfl]
     refine List.mem_map.2 ⟨p, hp, ?_⟩
     simp only [scp]
     congr 1
     simp at this
     rw [Int.tmod_eq_emod_of_nonneg (by omega)] at this
     simpa using this
  ·refine ⟨to, odd, dep, Ev.succ rfl (fun k => rfl) ?_, e1, e2, e3, fun _ _ _ => ⟨rfl, rfl⟩, fun ha hb => .leaf h0 h1 hk k4⟩
   have : (gt f n).Kind ≠ 5 ∧ (gt f n).Kind ≠ 6 ∧ (gt f n).Kind ≠ 7 ∧ (gt f n).Kind ≠ 8 ∧ (gt f n).Kind ≠ 9 ∧ (gt f n).Kind ≠ 10 ∧ (gt f n).Kind ≠ 11 := by unfold Leafy at hk; omega
   simp only [Q24.n, Q24.g, if_pos (And.intro h0 h1), if_neg k4, if_neg this.1, if_neg this.2.1, if_neg this.2.2.1, if_neg this.2.2.2.1, if_neg this.2.2.2.2.1, if_neg this.2.2.2.2.2.1, if_neg this.2.2.2.2.2.2, decide_eq_false this.2.2.1, decide_eq_false this.2.2.2.2.1, decide_eq_false this.2.2.2.2.2.2, Q13, Bool.false_eq_true, if_false]
   exact Ev.const _
 | @not l n h1 hk ha s ih =>
  intro S nots to odd dep e1 e2 e3 hS hn hn2 hl
  have := s.le
  obtain ⟨to', odd', dep', he, w⟩ := ih S (nots + 1) to odd dep e1 e2 e3 (fun p hp => by have := hS p hp; omega) (by omega) (by omega) (by omega)
  refine ⟨to', odd', st dep' n (gt dep' (n - 1)), Ev.succ rfl (fun k => rfl) ?_, w.l1, w.l2, by rw [Q102, w.l3], fun m hm h => w.fr m hm (by omega), fun h4 hto => .not h1 hk ha ?_⟩
  ·simp only [Q24.n, Q24.g, if_pos (And.intro (show 0 ≤ n by omega) h1), hk, ha, wrap64 (x := nots + 1) (by omega) (by omega), show ¬ ((5 : Int) = 4) by decide, if_false, if_true]
   refine Ev.bind he ?_
   dsimp only
   rw [if_pos (by omega), if_pos (by omega), wrap64 (x := nots + 1 - 1) (by omega) (by omega), show nots + 1 - 1 = nots by omega]
   exact Ev.const _
  ·rw [← scp_flip]
   exact w.bd (fun m a b c => h4 m a (by omega) c) (fun m a b => hto m a (by omega))
 | @modal l n h1 hk ha s ih =>
  intro S nots to odd dep e1 e2 e3 hS hn hn2 hl
  have := s.le
  obtain ⟨to', odd', dep', he, w⟩ := ih S nots to odd dep e1 e2 e3 hS (by omega) (by omega) (by omega)
  refine ⟨to', odd', st dep' n (gt dep' (n - 1)), Ev.succ rfl (fun k => rfl) ?_, w.l1, w.l2, by rw [Q102, w.l3], fun m hm h => w.fr m hm (by omega), fun h4 hto => .modal h1 hk ha ?_⟩
  ·have : (if (gt f n).Kind = 8 then (some (.inl (decide ((gt f n).Kind = 8))) : Option (Bool ⊕ ((List Bool) × (List Int) × (List Q16) × (List Int) × Int))) else some (.inl (decide ((gt f n).Kind = 9)))) = some (.inl true) := by
    rcases hk with hk | hk <;> simp [hk]
   have h45 : (gt f n).Kind ≠ 4 ∧ (gt f n).Kind ≠ 5 := by unfold Modal at hk; omega
   simp only [Q24.n, Q24.g, if_pos (And.intro (show 0 ≤ n by omega) h1), this, ha, if_neg h45.1, if_neg h45.2, Q13, if_true]
   refine Ev.bind he ?_
   dsimp only
   rw [if_pos (by omega), if_pos (by omega)]
   exact Ev.const _
  ·exact w.bd (fun m a b c => h4 m a (by omega) c) (fun m a b => hto m a (by omega))
 | @fix l n h1 hk ha s ih =>
  intro S nots to odd dep e1 e2 e3 hS hn hn2 hl
  have := s.le
  obtain ⟨to', odd', dep', he, w⟩ := ih (S ++ [⟨n, nots⟩]) nots to odd dep e1 e2 e3 (fun p hp => by
   rcases List.mem_append.1 hp with hp | hp
   ·exact hS p hp
   ·rw [List.mem_singleton.1 hp]; dsimp only; omega) (by omega) (by omega) (by simp; omega)
  refine ⟨to', odd', st dep' n (IntKind.i64.wrap (gt dep' (n - 1) + 1)), Ev.succ rfl (fun k => rfl) ?_, w.l1, w.l2, by rw [Q102, w.l3], fun m hm h => w.fr m hm (by omega), fun h4 hto => .fix h1 hk ha ?_⟩
  ·have t1 : (if (gt f n).Kind = 10 then (some (.inl (decide ((gt f n).Kind = 10))) : Option (Bool ⊕ ((List Bool) × (List Int) × (List Q16) × (List Int) × Int))) else some (.inl (decide ((gt f n).Kind = 11)))) = some (.inl true) := by
    rcases hk with hk | hk <;> simp [hk]
   have h45 : (gt f n).Kind ≠ 4 ∧ (gt f n).Kind ≠ 5 ∧ (gt f n).Kind ≠ 8 ∧ (gt f n).Kind ≠ 9 ∧ (gt f n).Kind ≠ 6 ∧ (gt f n).Kind ≠ 7 := by unfold Fixy at hk; omega
   simp only [Q24.n, Q24.g, if_pos (And.intro (show 0 ≤ n by omega) h1), t1, ha, if_neg h45.1, if_neg h45.2.1, if_neg h45.2.2.1, if_neg h45.2.2.2.2.1, decide_eq_false h45.2.2.2.1, decide_eq_false h45.2.2.2.2.2, Bool.false_eq_true, if_false, Q13, if_true]
   have hsz : (S.length + [(⟨n, nots⟩ : Q16)].length) * 16 ≤ 140737488355328 := by simp; omega
   simp only [if_pos hsz]
   refine Ev.bind he ?_
   dsimp only
   rw [wrap64 (x := ((S ++ [(⟨n, nots⟩ : Q16)]).length : Int) - 1) (by rw [List.length_append]; omega) (by rw [List.length_append]; simp; omega), if_pos (by rw [List.length_append]; simp; omega), if_pos (by omega), if_pos (by omega)]
   rw [show (((S ++ [(⟨n, nots⟩ : Q16)]).length : Int) - 1).toNat = S.length by simp, List.take_left' rfl]
   exact Ev.const _
  ·refine (w.bd (fun m a b c => h4 m a (by omega) c) (fun m a b => hto m a (by omega))).wide fun p hp => ?_
   rw [List.map_append] at hp
   rcases List.mem_append.1 hp with hp | hp
   ·exact List.mem_cons_of_mem _ hp
   ·simp [scp] at hp
    rw [hp]; exact List.mem_cons_self
 | @two l m n h1 hk ha hb s t ih1 ih2 =>
  intro S nots to odd dep e1 e2 e3 hS hn hn2 hl
  have := s.le
  have := t.le
  obtain ⟨to1, odd1, dep1, he1, w1⟩ := ih1 S nots to odd dep e1 e2 e3 hS (by omega) (by omega) (by omega)
  obtain ⟨to2, odd2, dep2, he2, w2⟩ := ih2 S nots to1 odd1 dep1 w1.l1 w1.l2 w1.l3 hS (by omega) (by omega) (by omega)
  refine ⟨to2, odd2, st dep2 n (if gt dep2 m < gt dep2 (n - 1) then gt dep2 (n - 1) else gt dep2 m), Ev.succ rfl (fun k => rfl) ?_, w2.l1, w2.l2, by rw [Q102, w2.l3], fun q hq h => ?_, fun h4 hto => .two h1 hk ha hb ?_ ?_⟩
  ·have t1 : (if (gt f n).Kind = 6 then (some (.inl (decide ((gt f n).Kind = 6))) : Option (Bool ⊕ ((List Bool) × (List Int) × (List Q16) × (List Int) × Int))) else some (.inl (decide ((gt f n).Kind = 7)))) = some (.inl true) := by
    rcases hk with hk | hk <;> simp [hk]
   have h45 : (gt f n).Kind ≠ 4 ∧ (gt f n).Kind ≠ 5 ∧ (gt f n).Kind ≠ 8 ∧ (gt f n).Kind ≠ 9 := by unfold Twoy at hk; omega
   simp only [Q24.n, Q24.g, if_pos (And.intro (show 0 ≤ n by omega) h1), t1, ha, hb, if_neg h45.1, if_neg h45.2.1, if_neg h45.2.2.1, decide_eq_false h45.2.2.2, Bool.false_eq_true, if_false, Q13, if_true]
   refine Ev.bind he1 (Ev.bind he2 ?_)
   dsimp only
   rw [if_pos (by omega), if_pos (by omega), if_pos (by omega)]
   exact Ev.const _
  ·have a := w1.fr q hq (by omega)
   have b := w2.fr q hq (by omega)
   exact ⟨b.1.trans a.1, b.2.trans a.2⟩
  ·refine (w1.bd (fun q a b c => ?_) (fun q a b => hto q a (by omega))).congr fun v a b => (w2.fr v (by omega) (by omega)).1
   have := w2.fr q (by omega) (by omega)
   rw [← this.1, ← this.2]
   exact h4 q a (by omega) c
  ·refine w2.bd (fun q a b c => h4 q (by omega) (by omega) c) (fun q a b => ?_)
   rw [(w1.fr q (by omega) (by omega)).1]
   exact hto q (by omega) (by omega)
end Go.Bw
namespace Go.Bw
open Go Go.RowKit

theorem Q334 {f : List Q1} (h1 : 1 ≤ f.length) (hf : f.length ≤ 60) (s : Sb f 0 ((f.length : Int) - 1)) :
 ∃ to odd dep, Q43.f f = some ([], to, odd, dep, 0) ∧ to.length = f.length ∧ odd.length = f.length ∧ dep.length = f.length ∧
  ((∀ m, 0 ≤ m → m < (f.length : Int) → (gt f m).Kind = 4 → 0 ≤ gt to m ∧ gt odd m = false) → Bd f to [] 0 ((f.length : Int) - 1)) := by
 obtain ⟨r, hr, t, rfl, hl, ht⟩ := Q68 (body := fun t_ : (List Int) × Int => Q43.l0b f t_.1 t_.2) (fun s => s.1.length = f.length ∧ 0 ≤ s.2 ∧ s.2 ≤ (f.length : Int) ∧ ∀ m, 0 ≤ m → m < s.2 → gt s.1 m = -1)
  (fun r => ∃ t, r = .inl t ∧ t.length = f.length ∧ ∀ m, 0 ≤ m → m < (f.length : Int) → gt t m = -1) (fun s => ((f.length : Int) - s.2).toNat) (fun ⟨t, i⟩ ⟨a0, a1, a2, a3⟩ => by
   dsimp only at a0 a1 a2 a3 ⊢
   unfold Q43.l0b
   have hlen : ((List.replicate (f.length : Int).toNat (0 : Int)).length : Int) = f.length := by simp
   rw [hlen]
   by_cases hi : i < (f.length : Int)
   ·right
    rw [if_pos hi, if_pos ⟨a1, hi⟩, wrap64 (x := i + 1) (by omega) (by omega)]
    refine ⟨_, rfl, ⟨by dsimp only; rw [Q102, a0], by dsimp only; omega, by dsimp only; omega, fun m m0 m1 => ?_⟩, by dsimp only; omega⟩
    dsimp only at m1 ⊢
    rw [Q90 a1 (by omega) m0]
    split
    ·rfl
    ·exact a3 m m0 (by omega)
   ·left
    rw [if_neg hi]
    exact ⟨_, rfl, t, rfl, a0, fun m m0 m1 => a3 m m0 (by omega)⟩) (List.replicate (f.length : Int).toNat 0, 0) ⟨by simp, Int.le_refl 0, by dsimp only; omega, fun m m0 m1 => by dsimp only at m1; omega⟩
 have hr' : Q43.l0 f (List.replicate (f.length : Int).toNat 0) 0 = some (.inl t) := hr
 obtain ⟨to, odd, dep, he, w⟩ := walk_run hf s [] 0 t (List.replicate (f.length : Int).toNat false) (List.replicate (f.length : Int).toNat 0) hl (by simp) (by simp) (fun p hp => by cases hp) (by decide) (by omega) (by simp; omega)
 refine ⟨to, odd, dep, ?_, w.l1, w.l2, w.l3, fun h => w.bd (fun m a b c => h m a (by omega) c) fun m a b => ht m a (by omega)⟩
 unfold Q43.f
 rw [if_pos (by omega), if_pos (by omega), hr', Q13, wrap64 (by omega) (by omega)]
 unfold Q24.f
 rw [he.recF]
 rfl
theorem fix_run (K A B At : Int) (a : Bs) : Q77.f K A B a At = some (decide (K = 10 ∨ K = 11)) := by
 unfold Q77.f
 by_cases h : K = 10 <;> simp [h, Q13]
structure Bound (f : List Q1) (to : List Int) : Prop where
 n0 : 1 ≤ f.length
 n1 : f.length ≤ 60
 bi : Q104.f f = some to
 len : to.length = f.length
 bd : Bd f to [] 0 ((f.length : Int) - 1)
theorem check_run (f : List Q1) (hs : ∀ n ∈ f, (n.Name.length : Int) ≤ 9223372036854775807) : ∃ e i, Q47.f f = some (e, i) ∧ (e = 0 → ∃ to, Bound f to) := by
 obtain ⟨b, hb, hr⟩ := Q308 f hs
 unfold Q47.f
 rw [hb, Option.bind_some]
 cases b with
 | false => exact ⟨1, 0, by simp, by simp⟩
 | true =>
 obtain ⟨n0, n1, sb⟩ := hr rfl
 obtain ⟨to, odd, dep, hw, l1, l2, l3, hbd⟩ := Q334 n0 n1 sb
 simp only [if_true, hw, Option.bind_some]
 have hl0 : ((List.replicate (f.length : Int).toNat (0 : Int)).length : Int) = f.length := by simp
 have hlf : ((List.replicate (f.length : Int).toNat false).length : Int) = f.length := by simp
 obtain ⟨r, hr, hq⟩ := Q68 (body := fun t_ : (List (Bs × Bool)) × Int => Q47.l0b f ([], to, odd, dep, 0) t_.1 t_.2) (fun s => 0 ≤ s.2 ∧ s.2 ≤ (f.length : Int) ∧ ∀ m, 0 ≤ m → m < s.2 → (gt f m).Kind = 4 → 0 ≤ gt to m ∧ gt odd m = false)
  (fun r => (∃ x, r = .inl x ∧ ∀ m, 0 ≤ m → m < (f.length : Int) → (gt f m).Kind = 4 → 0 ≤ gt to m ∧ gt odd m = false) ∨ ∃ e i, r = .inr (e, i) ∧ e ≠ 0) (fun s => ((f.length : Int) - s.2).toNat) (fun ⟨x, i⟩ ⟨a1, a2, a3⟩ => by
   dsimp only at a1 a2 a3 ⊢
   unfold Q47.l0b
   rw [hl0, hlf]
   by_cases hi : i < (f.length : Int)
   ·rw [if_pos hi, if_pos ⟨a1, hi⟩]
    simp only [fix_run, Option.bind_some, if_pos (And.intro a1 hi)]
    by_cases k4 : (gt f i).Kind = 4
    ·have k10 : ¬ ((gt f i).Kind = 10 ∨ (gt f i).Kind = 11) := by omega
     simp only [if_pos k4, Q13, decide_eq_false k10, Bool.false_eq_true, if_false]
     by_cases t0 : gt to i < 0
     ·left; simp only [decide_eq_true t0, if_true, jn_up]; exact ⟨_, rfl, .inr ⟨11, i, rfl, by decide⟩⟩
     simp only [decide_eq_false t0, Bool.false_eq_true, if_false]
     cases ho : gt odd i with
     | true => left; simp only [if_true, jn_up]; exact ⟨_, rfl, .inr ⟨12, i, rfl, by decide⟩⟩
     | false =>
      right
      simp only [Bool.false_eq_true, if_false, Q13]
      rw [wrap64 (x := i + 1) (by omega) (by omega)]
      refine ⟨_, rfl, ⟨by dsimp only; omega, by dsimp only; omega, fun m m0 m1 mk => ?_⟩, by dsimp only; omega⟩
      dsimp only at m1
      by_cases hm : m = i
      ·rw [hm]; exact ⟨by omega, ho⟩
      ·exact a3 m m0 (by omega) mk
    ·simp only [if_neg k4, Q13, Bool.false_eq_true, if_false]
     have nxt : ∀ x' : List (Bs × Bool), ∃ s' : (List (Bs × Bool)) × Int, (nx (x', IntKind.i64.wrap (i + 1)) : Option (((List (Bs × Bool)) × Int) ⊕ (((List (Bs × Bool))) ⊕ (Int × Int)))) = some (.inl s') ∧ (0 ≤ s'.2 ∧ s'.2 ≤ (f.length : Int) ∧ ∀ m, 0 ≤ m → m < s'.2 → (gt f m).Kind = 4 → 0 ≤ gt to m ∧ gt odd m = false) ∧ ((f.length : Int) - s'.2).toNat < ((f.length : Int) - i).toNat := fun x' => by
      rw [wrap64 (x := i + 1) (by omega) (by omega)]
      refine ⟨_, rfl, ⟨by dsimp only; omega, by dsimp only; omega, fun m m0 m1 mk => ?_⟩, by dsimp only; omega⟩
      dsimp only at m1
      by_cases hm : m = i
      ·rw [hm] at mk; exact absurd mk k4
      ·exact a3 m m0 (by omega) mk
     by_cases k10 : (gt f i).Kind = 10 ∨ (gt f i).Kind = 11
     ·simp only [decide_eq_true k10, if_true, Q13]
      cases hse : (mget x (gt f i).Name).getD false with
      | true => left; simp only [if_true, jn_up]; exact ⟨_, rfl, .inr ⟨9, i, rfl, by decide⟩⟩
      | false =>
       simp only [Bool.false_eq_true, if_false]
       by_cases h4 : 4 < gt dep i
       ·left; simp only [decide_eq_true h4, if_true, jn_up]; exact ⟨_, rfl, .inr ⟨13, i, rfl, by decide⟩⟩
       ·right
        simp only [decide_eq_false h4, Bool.false_eq_true, if_false, Q13]
        exact nxt _
     ·right
      simp only [decide_eq_false k10, Bool.false_eq_true, if_false, Q13]
      exact nxt _
   ·left
    rw [if_neg hi]
    exact ⟨_, rfl, .inl ⟨x, rfl, fun m m0 m1 => a3 m m0 (by omega)⟩⟩) ([], 0) ⟨by decide, by dsimp only; omega, fun m m0 m1 => by dsimp only at m1; omega⟩
 have hr' : Q47.l0 f ([], to, odd, dep, 0) [] 0 = some r := hr
 rw [hr']
 rcases hq with ⟨x, rfl, hg⟩ | ⟨e, i, rfl, he⟩
 ·refine ⟨0, 0, rfl, fun _ => ⟨to, n0, n1, ?_, l1, hbd hg⟩⟩
  unfold Q104.f
  rw [hb, Option.bind_some, if_pos rfl, hw]
  rfl
 ·exact ⟨e, i, rfl, fun h => absurd h he⟩
end Go.Bw
namespace Go.Bw
open Go Go.RowKit

noncomputable def itk {σ ρ : Type} (B : σ → Option (σ ⊕ ρ)) : σ ⊕ ρ → Option ρ
 | .inl s' => iter B s'
 | .inr r => some r
theorem Q269 {σ ρ : Type} (B : σ → Option (σ ⊕ ρ)) (s : σ) : iter B s = (B s).bind (itk B) := by
 rw [Q71]
 congr 1
theorem Ev.iter_step {σ ρ : Type} {B : Nat → σ → Option (σ ⊕ ρ)} {s s' : σ} {r : ρ} (h : Ev (fun k => B k s) (.inl s')) (g : Ev (fun k => iter (B k) s') r) : Ev (fun k => iter (B k) s) r := by
 rw [show (fun k => iter (B k) s) = fun k => (B k s).bind (itk (B k)) from funext fun k => Q269 _ _]
 exact Ev.bind (F := fun k => itk (B k)) h g
theorem Ev.iter_end {σ ρ : Type} {B : Nat → σ → Option (σ ⊕ ρ)} {s : σ} {r : ρ} (h : Ev (fun k => B k s) (.inr r)) : Ev (fun k => iter (B k) s) r := by
 rw [show (fun k => iter (B k) s) = fun k => (B k s).bind (itk (B k)) from funext fun k => Q269 _ _]
 exact Ev.bind (F := fun k => itk (B k)) h (Ev.const r)
def Ws (v : BitVec 64) (S : PS) : Prop := ∀ i : Nat, i < 64 → (v.getLsbD i = true ↔ S i)
theorem Ws.uniq {u v : BitVec 64} {S : PS} (hu : Ws u S) (hv : Ws v S) : u = v := by
 apply BitVec.eq_of_getLsbD_eq
 intro i hi
 rw [Bool.eq_iff_iff, hu i hi, hv i hi]
theorem Ws.eq {v : BitVec 64} {S T : PS} {n : Int} (hn : n ≤ 64) (hu : Ws v S) (hv : Ws v T) (hS : ∀ s, S s → 0 ≤ s ∧ s < n) (hT : ∀ s, T s → 0 ≤ s ∧ s < n) : S = T := by
 funext s
 apply propext
 by_cases h : 0 ≤ s ∧ s < n
 ·have a := hu s.toNat (by omega)
  have b := hv s.toNat (by omega)
  rw [show ((s.toNat : Nat) : Int) = s by omega] at a b
  exact a.symm.trans b
 ·exact ⟨fun x => absurd (hS s x) h, fun x => absurd (hT s x) h⟩
theorem Ws.and {u v : BitVec 64} {S T : PS} (hu : Ws u S) (hv : Ws v T) : Ws (u &&& v) (fun s => S s ∧ T s) := fun i hi => by
 rw [BitVec.getLsbD_and, Bool.and_eq_true, hu i hi, hv i hi]
theorem Ws.or {u v : BitVec 64} {S T : PS} (hu : Ws u S) (hv : Ws v T) : Ws (u ||| v) (fun s => S s ∨ T s) := fun i hi => by
 rw [BitVec.getLsbD_or, Bool.or_eq_true, hu i hi, hv i hi]
theorem Ws.minus {u v : BitVec 64} {S T : PS} (hu : Ws u S) (hv : Ws v T) : Ws (u &&& ~~~ v) (fun s => S s ∧ ¬ T s) := fun i hi => by
 rw [BitVec.getLsbD_and, Bool.and_eq_true, hu i hi, BitVec.getLsbD_not]
 show _ ↔ S i ∧ ¬ T i
 rw [← hv i hi]
 simp [hi]
theorem Ws.none : Ws 0#64 (fun _ => False) := fun i hi => by simp
theorem Ws.lt {u v : BitVec 64} {S T : PS} (hu : Ws u S) (hv : Ws v T) (h : Le S T) (hne : u ≠ v) : u.toNat < v.toNat := by
 have e : u = u &&& v := BitVec.eq_of_getLsbD_eq fun i hi => by
  rw [BitVec.getLsbD_and, Bool.eq_iff_iff, Bool.and_eq_true]
  exact ⟨fun x => ⟨x, (hv i hi).2 (h _ ((hu i hi).1 x))⟩, fun x => x.1⟩
 have h1 : u.toNat ≤ v.toNat := by
  rw [e, BitVec.toNat_and]
  exact Nat.and_le_right
 have h2 : u.toNat ≠ v.toNat := fun h => hne (BitVec.eq_of_toNat_eq h)
 omega
theorem W4.word {u : W4} {S : PS} {n : Int} (hn : n ≤ 64) (h : u.Rep S) (hS : ∀ s, S s → 0 ≤ s ∧ s < n) : u = ⟨u.a, 0#64, 0#64, 0#64⟩ ∧ Ws u.a S := by
 have ha : Ws u.a S := fun i hi => by
  have := h i (by omega) (by omega)
  rw [← this]
  unfold W4.has W4.sel
  rw [if_pos (by omega), show ((i : Int) % 64).toNat = i by omega]
 refine ⟨W4.ext4 fun m m0 m1 => ?_, ha⟩
 by_cases hm : m / 64 = 0
 ·unfold W4.has W4.sel
  rw [if_pos hm, if_pos hm]
 ·have e : u.has m = false := by
   cases hh : u.has m with
   | false => rfl
   | true => have := hS m ((h m m0 m1).1 hh); omega
  rw [e]
  unfold W4.has W4.sel
  rw [if_neg hm]
  split
  ·simp
  ·split <;> simp
structure Tb (n : Int) (holds : List (Bs × Q2)) (next : List (Q7 × Q2)) (C : Ctx) : Prop where
 N : C.N = n
 n0 : 1 ≤ n
 n1 : n ≤ 24
 ok : C.Ok
 ho : ∀ a, ∃ v, Q65.f n holds next a = some (Wd v, 0, 0, 0) ∧ Ws v (C.holds a)
 ba : ∀ a v S, Ws v S → Le S C.all → ∃ u, Q39.f n holds next (Wd v) 0 0 0 a = some (Wd u, 0, 0, 0) ∧ Ws u (fun s => ∃ t, C.edge a s t ∧ S t)
abbrev S1 (v : BitVec 64) : Q2 := ⟨Wd v, 0, 0, 0⟩
theorem band00 : band .u64 0 0 = 0 := rfl
theorem bor00 : bor .u64 0 0 = 0 := rfl
theorem bandnot00 : bandnot .u64 0 0 = 0 := rfl
section
variable {n : Int} {holds : List (Bs × Q2)} {next : List (Q7 × Q2)} {C : Ctx} {f : List Q1} {to : List Int} {al : BitVec 64}
theorem Q215 (v : BitVec 64) (e : List Q2) : Q69.f n holds next f to (Wd al) 0 0 0 e (Wd v) 0 0 0 = some (Wd (al &&& ~~~ v), 0, 0, 0) := by
 unfold Q69.f Q95.f
 rw [Q237, bandnot00]
 rfl
def EnvD (C : Ctx) (e : List Q2) (E : Int → PS) (m : Int) : Prop := ∃ v, gt e m = S1 v ∧ Ws v (E m) ∧ Le (E m) C.all
abbrev NdR (C : Ctx) (n' : Int) (f : List Q1) (e : List Q2) (D : PS) (e' : List Q2) (v : BitVec 64) : Prop :=
 e'.length = f.length ∧ (∀ m, n' < m → gt e' m = gt e m) ∧ Ws v D
def jnk {σ ρ : Type} (g : σ → Option ρ) : σ ⊕ ρ → Option ρ
 | .inl s => g s
 | .inr o => some o
theorem jn_jnk {σ ρ : Type} (x : Option (σ ⊕ ρ)) (g : σ → Option ρ) : jn x g = x.bind (jnk g) := by
 rcases x with _ | _ | _ <;> rfl
theorem Ev.jn_inr {σ ρ : Type} {N : Nat → Option (σ ⊕ ρ)} {g : σ → Option ρ} {r : ρ} (h : Ev N (.inr r)) : Ev (fun k => jn (N k) g) r := by
 rw [show (fun k => jn (N k) g) = fun k => (N k).bind (jnk g) from funext fun k => jn_jnk _ _]
 exact Ev.bind (F := fun _ => jnk g) h (Ev.const r)
theorem Q277 {m : Int} (h0 : 0 ≤ m) (h1 : m < (f.length : Int)) (ha : (gt f m).A = m - 1) {e : List Q2} {F : PS → PS} {J : PS → Prop} (μ : BitVec 64 → Nat)
 (hround : ∀ e1 u S, e1.length = f.length → (∀ q, m < q → gt e1 q = gt e q) → gt e1 m = S1 u → Ws u S → J S →
  ∃ e' v, Ev (fun k => Q12.n k n holds next f to (Wd al) 0 0 0 e1 (m - 1)) (e', Wd v, 0, 0, 0) ∧ e'.length = f.length ∧ (∀ q, m - 1 < q → gt e' q = gt e1 q) ∧ Ws v (F S))
 (hJ : ∀ S u v, J S → Ws u S → Ws v (F S) → v ≠ u → J (F S) ∧ μ v < μ u) : ∀ (d : Nat) (e1 : List Q2) (u : BitVec 64) (S : PS), μ u ≤ d → e1.length = f.length → (∀ q, m < q → gt e1 q = gt e q) → gt e1 m = S1 u → Ws u S → J S →
  ∃ e' v S', Ev (fun k => iter (fun t_ : List Q2 => Q21.l0b n holds next f to (Wd al) 0 0 0 m (Q12.n k) t_) e1) (.inr (e', Wd v, 0, 0, 0)) ∧ e'.length = f.length ∧ (∀ q, m < q → gt e' q = gt e q) ∧ Ws v (F S') ∧ Ws v S' ∧ J S' := by
 intro d
 induction d with
 | zero =>
  intro e1 u S hd hl hfr hg hu hS
  obtain ⟨e', v, hev, hl', hfr', hv⟩ := hround e1 u S hl hfr hg hu hS
  have huv : v = u := Classical.byContradiction fun h => by have := (hJ S u v hS hu hv h).2; omega
  refine ⟨e', v, S, Ev.iter_end ?_, hl', fun q hq => (hfr' q (by omega)).trans (hfr q hq), hv, by rw [huv]; exact hu, hS⟩
  simp only [Q21.l0b, if_pos (And.intro h0 h1), ha]
  refine Ev.bind hev ?_
  have hgm := (hfr' m (by omega)).trans hg
  simp only [hgm, huv]
  simp only [decide_true, Bool.and_self, if_true]
  exact Ev.const _
 | succ d ihd =>
  intro e1 u S hd hl hfr hg hu hS
  obtain ⟨e', v, hev, hl', hfr', hv⟩ := hround e1 u S hl hfr hg hu hS
  have hgm := (hfr' m (by omega)).trans hg
  by_cases huv : v = u
  ·refine ⟨e', v, S, Ev.iter_end ?_, hl', fun q hq => (hfr' q (by omega)).trans (hfr q hq), hv, by rw [huv]; exact hu, hS⟩
   simp only [Q21.l0b, if_pos (And.intro h0 h1), ha]
   refine Ev.bind hev ?_
   simp only [hgm, huv]
   simp only [decide_true, Bool.and_self, if_true]
   exact Ev.const _
  ·obtain ⟨hJ', hμ⟩ := hJ S u v hS hu hv huv
   obtain ⟨e2, v2, S2, g1, g2, g3, g4, g5, g6⟩ := ihd (st e' m (S1 v)) v (F S) (by omega) (by rw [Q102, hl']) (fun q hq => by
    rw [Q90 h0 (by omega) (by omega), if_neg (by omega)]
    exact (hfr' q (by omega)).trans (hfr q hq)) (by rw [Q90 h0 (by omega) h0, if_pos rfl]) hv hJ'
   refine ⟨e2, v2, S2, Ev.iter_step (s' := st e' m (S1 v)) ?_ g1, g2, g3, g4, g5, g6⟩
   simp only [Q21.l0b, if_pos (And.intro h0 h1), ha]
   refine Ev.bind hev ?_
   have hne : ¬ Wd v = Wd u := fun h => huv (Wd.inj h)
   simp only [hgm, decide_eq_false hne, Bool.false_and, Bool.false_eq_true, if_false]
   exact Ev.const _
theorem node_run (T : Tb n holds next C) (hal : Ws al C.all) {sc : List (Int × Bool)} {l m : Int} (b : Bd f to sc l m) : to.length = f.length → (∀ p ∈ sc, m < p.1 ∧ p.1 < (f.length : Int)) → ∀ (e : List Q2) (E : Int → PS), e.length = f.length → (∀ p ∈ sc, EnvD C e E p.1) →
 ∃ e' v, Ev (fun k => Q12.n k n holds next f to (Wd al) 0 0 0 e m) (e', Wd v, 0, 0, 0) ∧ NdR C m f e (den C f to m E) e' v := by
 induction b with
 | @var sc m h0 h1 hk hs =>
  intro hto hsc e E he hE
  obtain ⟨v, hv, hw, _⟩ := hE _ hs
  have := hsc _ hs
  dsimp only at hv hw this
  refine ⟨e, v, Ev.succ rfl (fun k => rfl) ?_, he, fun _ _ => rfl, by rw [Q161 hk]; exact hw⟩
  have hg : Q12.g = Q12.g := rfl
  show Ev (fun k => Q12.g _ _ n holds next f to (Wd al) 0 0 0 e m) _
  simp only [Q12.g, if_pos (And.intro h0 h1), hk, hto, he, if_pos (show 0 ≤ gt to m ∧ gt to m < (f.length : Int) by omega), hv]
  simp
  exact Ev.const _
 | @leaf sc m h0 h1 hk h4 =>
  intro hto hsc e E he hE
  obtain ⟨v, hv, hw⟩ := T.ho (gt f m).Name
  rcases hk with hk | hk | hk | hk | hk
  ·refine ⟨e, al, Ev.succ rfl (fun k => rfl) ?_, he, fun _ _ => rfl, by rw [Q168 hk]; exact hal⟩
   show Ev (fun k => Q12.g _ _ n holds next f to (Wd al) 0 0 0 e m) _
   simp only [Q12.g, if_pos (And.intro h0 h1), hk]
   exact Ev.const _
  ·refine ⟨e, 0#64, Ev.succ rfl (fun k => rfl) ?_, he, fun _ _ => rfl, by rw [Q163 hk]; exact Ws.none⟩
   show Ev (fun k => Q12.g _ _ n holds next f to (Wd al) 0 0 0 e m) _
   simp only [Q12.g, if_pos (And.intro h0 h1), hk]
   exact Ev.const _
  ·refine ⟨e, v, Ev.succ rfl (fun k => rfl) ?_, he, fun _ _ => rfl, by rw [Q162 hk]; exact hw⟩
   show Ev (fun k => Q12.g _ _ n holds next f to (Wd al) 0 0 0 e m) _
   simp only [Q12.g, if_pos (And.intro h0 h1), hk, hv, Option.bind_some]
   exact Ev.const _
  ·exact absurd hk h4
  ·refine ⟨e, al &&& ~~~ v, Ev.succ rfl (fun k => rfl) ?_, he, fun _ _ => rfl, by rw [Q186 hk]; exact hal.minus hw⟩
   show Ev (fun k => Q12.g _ _ n holds next f to (Wd al) 0 0 0 e m) _
   simp only [Q12.g, if_pos (And.intro h0 h1), hk, hv, Option.bind_some, Q215]
   exact Ev.const _
 | @not sc l m h1 hk ha s ih =>
  intro hto hsc e E he hE
  have := s.le
  obtain ⟨e', v, hev, hl, hfr, hw⟩ := ih hto (fun p hp => by
   obtain ⟨q, hq, rfl⟩ := List.mem_map.1 hp
   have := hsc q hq
   dsimp only; omega) e E he (fun p hp => by
   obtain ⟨q, hq, rfl⟩ := List.mem_map.1 hp
   exact hE q hq)
  refine ⟨e', al &&& ~~~ v, Ev.succ rfl (fun k => rfl) ?_, hl, fun q hq => hfr q (by omega), by rw [Q190 hk ha (by omega)]; exact hal.minus hw⟩
  show Ev (fun k => Q12.g (Q12.n k) (Q21.n k) n holds next f to (Wd al) 0 0 0 e m) _
  simp only [Q12.g, if_pos (And.intro (show 0 ≤ m by omega) h1), hk, ha]
  refine Ev.bind hev ?_
  simp only [Q215, Option.bind_some]
  exact Ev.const _
 | @modal sc l m h1 hk ha s ih =>
  intro hto hsc e E he hE
  have := s.le
  obtain ⟨e', v, hev, hl, hfr, hw⟩ := ih hto (fun p hp => by have := hsc p hp; omega) e E he hE
  have hin : Le (den C f to (m - 1) E) C.all := den_in T.ok s (fun p hp => by obtain ⟨v, _, _, h⟩ := hE p hp; exact h) (fun p hp => by have := hsc p hp; omega)
  rcases hk with hk | hk
  ·obtain ⟨u, hu, hwu⟩ := T.ba (gt f m).Name v _ hw hin
   refine ⟨e', u, Ev.succ rfl (fun k => rfl) ?_, hl, fun q hq => hfr q (by omega), by rw [Q170 hk ha (by omega)]; exact hwu⟩
   show Ev (fun k => Q12.g (Q12.n k) (Q21.n k) n holds next f to (Wd al) 0 0 0 e m) _
   simp only [Q12.g, if_pos (And.intro (show 0 ≤ m by omega) h1), hk, ha]
   refine Ev.bind hev ?_
   simp only [hu, Option.bind_some]
   exact Ev.const _
  ·obtain ⟨u, hu, hwu⟩ := T.ba (gt f m).Name (al &&& ~~~ v) _ (hal.minus hw) (fun s h => h.1)
   refine ⟨e', al &&& ~~~ u, Ev.succ rfl (fun k => rfl) ?_, hl, fun q hq => hfr q (by omega), ?_⟩
   ·show Ev (fun k => Q12.g (Q12.n k) (Q21.n k) n holds next f to (Wd al) 0 0 0 e m) _
    simp only [Q12.g, if_pos (And.intro (show 0 ≤ m by omega) h1), hk, ha]
    refine Ev.bind hev ?_
    simp only [Q215, hu, Option.bind_some]
    exact Ev.const _
   ·rw [Q194 hk ha (by omega)]
    have h := hal.minus hwu
    have e1 : (fun s => C.all s ∧ ∀ t, C.edge (gt f m).Name s t → den C f to (m - 1) E t) = fun s => C.all s ∧ ¬ ∃ t, C.edge (gt f m).Name s t ∧ C.all t ∧ ¬ den C f to (m - 1) E t := by
     funext s
     refine propext (and_congr_right fun _ => ?_)
     constructor
     ·rintro h ⟨t, h1, _, h3⟩; exact h3 (h t h1)
     ·intro h t ht
      exact Classical.byContradiction fun hn => h ⟨t, ht, (T.ok.edge _ _ _ ht).2, hn⟩
    rw [e1]
    exact h
 | @fix sc l m h1 hk ha s ih =>
  intro hto hsc e E he hE
  have sl := s.le
  have n1 := T.n1
  have hall : ∀ S : PS, Le S C.all → ∀ s, S s → 0 ≤ s ∧ s < n := fun S h s hs => by have := h s hs; unfold Ctx.all at this; rw [T.N] at this; exact this
  have hsc' : ∀ p ∈ (m, true) :: sc, m - 1 < p.1 ∧ p.1 < (f.length : Int) := fun p hp => by
   rcases List.mem_cons.1 hp with rfl | hp
   ·dsimp only; omega
   ·have := hsc p hp; omega
  have hround : ∀ e1 u S, e1.length = f.length → (∀ q, m < q → gt e1 q = gt e q) → gt e1 m = S1 u → Ws u S → Le S C.all →
   ∃ e' v, Ev (fun k => Q12.n k n holds next f to (Wd al) 0 0 0 e1 (m - 1)) (e', Wd v, 0, 0, 0) ∧ e'.length = f.length ∧ (∀ q, m - 1 < q → gt e' q = gt e1 q) ∧ Ws v (den C f to (m - 1) (updE E m S)) := fun e1 u S hl hfr hg hu hS =>
   ih hto hsc' e1 (updE E m S) hl (fun p hp => by
    rcases List.mem_cons.1 hp with rfl | hp
    ·exact ⟨u, hg, by dsimp only; rw [Q145]; exact hu, by dsimp only; rw [Q145]; exact hS⟩
    ·have := hsc p hp
     obtain ⟨v, h1, h2, h3⟩ := hE p hp
     refine ⟨v, (hfr _ (by omega)).trans h1, ?_, ?_⟩ <;> rw [Q154 (by omega)] <;> assumption)
  have hin : ∀ S, Le S C.all → Le (den C f to (m - 1) (updE E m S)) C.all := fun S hS => den_in T.ok s (fun p hp => by
   rcases List.mem_cons.1 hp with rfl | hp
   ·rw [Q145]; exact hS
   ·have := hsc p hp
    rw [Q154 (by omega)]
    obtain ⟨v, _, _, h⟩ := hE p hp
    exact h) (fun p hp => (hsc' p hp).1)
  have hmono : ∀ S S', Le S S' → Le (den C f to (m - 1) (updE E m S)) (den C f to (m - 1) (updE E m S')) := fun S S' h =>
   den_mono s (fun p hp => (hsc' p hp).1) ((Way.rfl sc E).cons (fun p hp => by have := hsc p hp; omega) h)
  have hup : ∀ q, m < q → gt (st e m (S1 0#64)) q = gt e q := fun q hq => by rw [Q90 (by omega) (by omega) (by omega), if_neg (by omega)]
  have hup' : ∀ q, m < q → gt (st e m (S1 al)) q = gt e q := fun q hq => by rw [Q90 (by omega) (by omega) (by omega), if_neg (by omega)]
  have hfix : ∀ (a b : BitVec 64) (D : PS) (e' : List Q2), Ev (fun k => iter (fun t_ : List Q2 => Q21.l0b n holds next f to (Wd al) 0 0 0 m (Q12.n k) t_) (st e m (S1 a))) (.inr (e', Wd b, 0, 0, 0)) →
   Ev (fun k => Q21.n k n holds next f to (Wd al) 0 0 0 e m (Wd a) 0 0 0) (e', Wd b, 0, 0, 0) := fun a b D e' h => by
   refine Ev.succ rfl (fun k => rfl) ?_
   show Ev (fun k => Q21.g (Q12.n k) (Q21.n k) n holds next f to (Wd al) 0 0 0 e m (Wd a) 0 0 0) _
   simp only [Q21.g, Q21.l0, he, if_pos (And.intro (show 0 ≤ m by omega) h1)]
   exact Ev.jn_inr h
  rcases hk with hk | hk
  ·obtain ⟨e', v, S', g1, g2, g3, g4, g5, g6, g7, g8⟩ := Q277 (n := n) (holds := holds) (next := next) (to := to) (al := al) (show 0 ≤ m by omega) h1 ha (e := e) (F := fun S => den C f to (m - 1) (updE E m S)) (J := fun S => Le S C.all ∧ Le S (den C f to (m - 1) (updE E m S)) ∧ Le S (lfp fun S => den C f to (m - 1) (updE E m S))) (fun u => 2 ^ 64 - u.toNat)
    (fun e1 u S hl hfr hg hu hS => hround e1 u S hl hfr hg hu hS.1) (fun S u v hS hu hv hne => ⟨⟨hin S hS.1, hmono _ _ hS.2.1, fun s hs => lfp_pre hmono s (hmono _ _ hS.2.2 s hs)⟩, by
     have := hu.lt hv hS.2.1 (fun h => hne h.symm)
     have := v.isLt
     omega⟩) (2 ^ 64) (st e m (S1 0#64)) 0#64 (fun _ => False) (by omega) (by rw [Q102, he]) hup (by rw [Q90 (by omega) (by omega) (by omega), if_pos rfl]) Ws.none ⟨fun _ h => h.elim, fun _ h => h.elim, fun _ h => h.elim⟩
   have hSF : S' = den C f to (m - 1) (updE E m S') := Ws.eq (n := n) (by omega) g5 g4 (hall _ g6) (hall _ (hin _ g6))
   refine ⟨e', v, Ev.succ rfl (fun k => rfl) ?_, g2, g3, ?_⟩
   ·show Ev (fun k => Q12.g (Q12.n k) (Q21.n k) n holds next f to (Wd al) 0 0 0 e m) _
    simp only [Q12.g, if_pos (And.intro (show 0 ≤ m by omega) h1), hk]
    exact Ev.bind (hfix 0#64 v (fun _ => False) e' g1) (Ev.const _)
   ·rw [Q160 hk ha (by omega)]
    have : S' = lfp fun S => den C f to (m - 1) (updE E m S) := funext fun s => propext ⟨g8 s, fun h => h S' fun t ht => by rw [hSF]; exact ht⟩
    rw [← this]
    exact g5
  ·obtain ⟨e', v, S', g1, g2, g3, g4, g5, g6, g7, g8⟩ := Q277 (n := n) (holds := holds) (next := next) (to := to) (al := al) (show 0 ≤ m by omega) h1 ha (e := e) (F := fun S => den C f to (m - 1) (updE E m S)) (J := fun S => Le S C.all ∧ Le (den C f to (m - 1) (updE E m S)) S ∧ Le (gfp fun S s => C.all s ∧ den C f to (m - 1) (updE E m S) s) S) (fun u => u.toNat)
    (fun e1 u S hl hfr hg hu hS => hround e1 u S hl hfr hg hu hS.1) (fun S u v hS hu hv hne => ⟨⟨hin S hS.1, hmono _ _ hS.2.1, fun s hs => hmono _ _ hS.2.2 s (gfp_post (F := fun S s => C.all s ∧ den C f to (m - 1) (updE E m S) s) (fun S S' h s hs => ⟨hs.1, hmono _ _ h s hs.2⟩) s hs).2⟩, hv.lt hu hS.2.1 hne⟩) al.toNat (st e m (S1 al)) al C.all (by omega) (by rw [Q102, he]) hup' (by rw [Q90 (by omega) (by omega) (by omega), if_pos rfl]) hal ⟨fun _ h => h, hin _ (fun _ h => h), fun s ⟨S, hS, hs⟩ => (hS s hs).1⟩
   have hSF : S' = den C f to (m - 1) (updE E m S') := Ws.eq (n := n) (by omega) g5 g4 (hall _ g6) (hall _ (hin _ g6))
   refine ⟨e', v, Ev.succ rfl (fun k => rfl) ?_, g2, g3, ?_⟩
   ·show Ev (fun k => Q12.g (Q12.n k) (Q21.n k) n holds next f to (Wd al) 0 0 0 e m) _
    simp only [Q12.g, if_pos (And.intro (show 0 ≤ m by omega) h1), hk]
    exact Ev.bind (hfix al v (fun _ => False) e' g1) (Ev.const _)
   ·rw [Q167 hk ha (by omega)]
    have : S' = gfp fun S s => C.all s ∧ den C f to (m - 1) (updE E m S) s := funext fun s => propext ⟨fun h => ⟨S', fun t ht => ⟨g6 t ht, by rw [← hSF]; exact ht⟩, h⟩, g8 s⟩
    rw [← this]
    exact g5
 | @two sc l q m h1 hk ha hb s t ih1 ih2 =>
  intro hto hsc e E he hE
  have := s.le
  have := t.le
  obtain ⟨e1, v1, hev1, hl1, hfr1, hw1⟩ := ih1 hto (fun p hp => by have := hsc p hp; omega) e E he hE
  obtain ⟨e2, v2, hev2, hl2, hfr2, hw2⟩ := ih2 hto (fun p hp => by have := hsc p hp; omega) e1 E hl1 (fun p hp => by
   obtain ⟨v, h1, h2⟩ := hE p hp
   have := hsc p hp
   exact ⟨v, (hfr1 _ (by omega)).trans h1, h2⟩)
  have hfr : ∀ w, m < w → gt e2 w = gt e w := fun w hw => (hfr2 w (by omega)).trans (hfr1 w (by omega))
  rcases hk with hk | hk
  ·refine ⟨e2, v1 &&& v2, Ev.succ rfl (fun k => rfl) ?_, hl2, hfr, by rw [Q164 hk ha hb (by omega) (by omega)]; exact hw1.and hw2⟩
   show Ev (fun k => Q12.g (Q12.n k) (Q21.n k) n holds next f to (Wd al) 0 0 0 e m) _
   simp only [Q12.g, if_pos (And.intro (show 0 ≤ m by omega) h1), hk, ha, hb]
   refine Ev.bind hev1 (Ev.bind hev2 ?_)
   simp only [Q94.f, Q157, band00, Option.bind_some]
   exact Ev.const _
  ·refine ⟨e2, v1 ||| v2, Ev.succ rfl (fun k => rfl) ?_, hl2, hfr, by rw [Q158 hk ha hb (by omega) (by omega)]; exact hw1.or hw2⟩
   show Ev (fun k => Q12.g (Q12.n k) (Q21.n k) n holds next f to (Wd al) 0 0 0 e m) _
   simp only [Q12.g, if_pos (And.intro (show 0 ≤ m by omega) h1), hk, ha, hb]
   refine Ev.bind hev1 (Ev.bind hev2 ?_)
   simp only [Q133.f, bor_wd, bor00, Option.bind_some]
   exact Ev.const _
end
end Go.Bw
namespace Go.Bw
open Go Go.RowKit

def wide (x : Q1) : Q1 := if x.Kind = 12 then { x with Kind := 3 } else x
theorem Q169 (x : Q1) : (wide x).A = x.A ∧ (wide x).B = x.B ∧ (wide x).Name = x.Name := by
 unfold wide
 split <;> exact ⟨rfl, rfl, rfl⟩
theorem Q140 {x : Q1} {k : Int} (h : k ≠ 3) (hk : (wide x).Kind = k) : x.Kind = k := by
 unfold wide at hk
 split at hk
 ·exact absurd hk.symm h
 ·exact hk
theorem Bd.wide_of {f g : List Q1} {to : List Int} (hl : g.length = f.length) (hg : ∀ m, 0 ≤ m → m < (f.length : Int) → gt g m = Bw.wide (gt f m)) {sc : List (Int × Bool)} {l n : Int} (b : Bd g to sc l n) : Bd f to sc l n := by
 induction b with
 | @var sc n h0 h1 hk hs =>
  rw [hl] at h1
  rw [hg n h0 h1] at hk
  exact .var h0 h1 (Q140 (by decide) hk) hs
 | @leaf sc n h0 h1 hk h4 =>
  rw [hl] at h1
  rw [hg n h0 h1] at hk h4
  refine .leaf h0 h1 ?_ fun h => h4 ?_
  ·unfold Bw.wide at hk
   unfold Leafy at hk ⊢
   split at hk <;> omega
  ·unfold Bw.wide
   rw [if_neg (by omega)]; exact h
 | @not sc l n h1 hk ha s ih =>
  have := s.le
  rw [hl] at h1
  rw [hg n (by omega) h1] at hk ha
  rw [(Q169 _).1] at ha
  exact .not h1 (Q140 (by decide) hk) ha ih
 | @modal sc l n h1 hk ha s ih =>
  have := s.le
  rw [hl] at h1
  rw [hg n (by omega) h1] at hk ha
  rw [(Q169 _).1] at ha
  exact .modal h1 (hk.imp (Q140 (by decide)) (Q140 (by decide))) ha ih
 | @fix sc l n h1 hk ha s ih =>
  have := s.le
  rw [hl] at h1
  rw [hg n (by omega) h1] at hk ha
  rw [(Q169 _).1] at ha
  exact .fix h1 (hk.imp (Q140 (by decide)) (Q140 (by decide))) ha ih
 | @two sc l m n h1 hk ha hb s t ih1 ih2 =>
  have := s.le
  have := t.le
  rw [hl] at h1
  rw [hg n (by omega) h1] at hk ha hb
  rw [(Q169 _).1] at ha
  rw [(Q169 _).2.1] at hb
  exact .two h1 (hk.imp (Q140 (by decide)) (Q140 (by decide))) ha hb ih1 ih2
theorem full_run4 {n : Int} (h0 : 1 ≤ n) (h1 : n ≤ 24) : Q82.f n = some (Wd (BitVec.ofInt 64 (2 ^ n.toNat - 1)), 0, 0, 0) := by
 have key : ∀ m : Fin 24, Q82.f ((m.1 : Int) + 1) = some (Wd (BitVec.ofInt 64 (2 ^ (m.1 + 1) - 1)), 0, 0, 0) := by decide +kernel
 have := key ⟨(n - 1).toNat, by omega⟩
 dsimp only at this
 rwa [show (((n - 1).toNat : Nat) : Int) + 1 = n by omega, show (n - 1).toNat + 1 = n.toNat by omega] at this
theorem full_ws {n : Int} (h0 : 1 ≤ n) (h1 : n ≤ 24) : Ws (BitVec.ofInt 64 (2 ^ n.toNat - 1)) (fun s => 0 ≤ s ∧ s < n) := fun i hi => by
 have key : ∀ m : Fin 25, ∀ i : Fin 64, (BitVec.ofInt 64 (2 ^ m.1 - 1)).getLsbD i.1 = decide (i.1 < m.1) := by decide +kernel
 have := key ⟨n.toNat, by omega⟩ ⟨i, hi⟩
 dsimp only at this ⊢
 rw [this, decide_eq_true_iff]
 omega
theorem eval_run (f : List Q1) (hs : ∀ n ∈ f, (n.Name.length : Int) ≤ 9223372036854775807) (hz : (0 + f.length) * 48 ≤ 140737488355328) :
 (∀ n holds next, Q70.f n holds next f = some (1, 0, 0, 0, 0)) ∨ ∃ to, 1 ≤ f.length ∧ f.length ≤ 60 ∧ to.length = f.length ∧ Bd f to [] 0 ((f.length : Int) - 1) ∧
  ∀ n holds next C, Tb n holds next C → ∃ v, Q70.f n holds next f = some (0, Wd v, 0, 0, 0) ∧ Ws v (den C f to ((f.length : Int) - 1) fun _ _ => False) := by
 obtain ⟨r, hr, g, rfl, hl, hg⟩ := Q68 (body := fun t_ : (List Q1) × Int => Q46.l0b f t_.1 t_.2) (fun s => s.1.length = f.length ∧ 0 ≤ s.2 ∧ s.2 ≤ (f.length : Int) ∧ (∀ m, 0 ≤ m → m < s.2 → gt s.1 m = wide (gt f m)) ∧ ∀ m, s.2 ≤ m → gt s.1 m = gt f m)
  (fun r => ∃ g, r = .inl g ∧ g.length = f.length ∧ ∀ m, 0 ≤ m → m < (f.length : Int) → gt g m = wide (gt f m)) (fun s => ((f.length : Int) - s.2).toNat) (fun ⟨t, i⟩ ⟨a0, a1, a2, a3, a4⟩ => by
   dsimp only at a0 a1 a2 a3 a4 ⊢
   unfold Q46.l0b
   by_cases hi : i < (f.length : Int)
   ·right
    have hx := a4 i (Int.le_refl _)
    rw [if_pos hi, if_pos ⟨a1, hi⟩, wrap64 (x := i + 1) (by omega) (by omega)]
    by_cases hk : (gt t i).Kind = 12
    ·rw [if_pos hk, Q13]
     refine ⟨_, rfl, ⟨by dsimp only; rw [Q102, a0], by dsimp only; omega, by dsimp only; omega, fun m m0 m1 => ?_, fun m m1 => ?_⟩, by dsimp only; omega⟩
     ·dsimp only at m1 ⊢
      rw [Q90 a1 (by omega) m0]
      split
      ·rename_i hmi
       rw [hmi, hx]
       unfold wide
       rw [if_pos (by rw [← hx]; exact hk)]
      ·exact a3 m m0 (by omega)
     ·dsimp only at m1 ⊢
      rw [Q90 a1 (by omega) (by omega), if_neg (by omega)]
      exact a4 m (by omega)
    ·rw [if_neg hk, Q13]
     refine ⟨_, rfl, ⟨a0, by dsimp only; omega, by dsimp only; omega, fun m m0 m1 => ?_, fun m m1 => a4 m (by dsimp only at m1; omega)⟩, by dsimp only; omega⟩
     dsimp only at m1 ⊢
     by_cases hm : m = i
     ·rw [hm, hx]
      unfold wide
      rw [if_neg (by rw [← hx]; exact hk)]
     ·exact a3 m m0 (by omega)
   ·left
    rw [if_neg hi]
    exact ⟨_, rfl, t, rfl, a0, fun m m0 m1 => a3 m m0 (by omega)⟩) (f, 0) ⟨rfl, Int.le_refl 0, by dsimp only; omega, fun m m0 m1 => by dsimp only at m1; omega, fun m _ => rfl⟩
 have hr' : Q46.l0 f f 0 = some (.inl g) := hr
 have hgs : ∀ x ∈ g, (x.Name.length : Int) ≤ 9223372036854775807 := fun x hx => by
  obtain ⟨q, hq, rfl⟩ := List.getElem_of_mem hx
  have e := hg (q : Int) (by omega) (by omega)
  rw [Q126 (List.getElem?_eq_getElem hq)] at e
  rw [e, (Q169 _).2.2]
  exact hs _ (Q105 (by omega) (by omega))
 obtain ⟨e, i, hc, hb⟩ := check_run g hgs
 by_cases he : e = 0
 ·right
  obtain ⟨to, B⟩ := hb he
  have n0 := B.n0
  have n1 := B.n1
  have bd : Bd f to [] 0 ((f.length : Int) - 1) := by have := B.bd.wide_of hl hg; rwa [hl] at this
  refine ⟨to, by omega, by omega, by rw [B.len, hl], bd, fun n holds next C T => ?_⟩
  have hal : Ws (BitVec.ofInt 64 (2 ^ n.toNat - 1)) C.all := by
   have := full_ws T.n0 T.n1
   unfold Ctx.all
   rw [T.N]
   exact this
  obtain ⟨e', v, hev, _, _, hw⟩ := node_run T hal bd (by rw [B.len, hl]) (fun p hp => by cases hp) (List.replicate (f.length : Int).toNat ⟨0, 0, 0, 0⟩) (fun _ _ => False) (by simp) (fun p hp => by cases hp)
  refine ⟨v, ?_, hw⟩
  unfold Q70.f Q46.f Q128.f
  rw [if_pos hz, Option.bind_some, hr', Q13, hc, Option.bind_some]
  simp only [he, if_true, B.bi, Option.bind_some, Q100.f, full_run4 T.n0 T.n1]
  rw [if_pos (by omega)]
  simp only [Option.bind_some]
  unfold Q12.f
  rw [wrap64 (by omega) (by omega), hev.recF]
  rfl
 ·left
  intro n holds next
  unfold Q70.f Q46.f Q128.f
  rw [if_pos hz, Option.bind_some, hr', Q13, hc, Option.bind_some]
  simp only [if_neg he, Option.bind_some]
end Go.Bw
namespace Go.Bw
open Go Go.RowKit

theorem band0 (v : BitVec 64) : band .u64 (Wd v) 0 = 0 := by
 rw [show (0 : Int) = Wd 0#64 from rfl, Q157]
 simp
def Meets (S : Int → Prop) (to : BitVec 64) : Prop := ∃ t : Nat, t < 64 ∧ S t ∧ to.getLsbD t = true
theorem Q235 {u : W4} {S : Int → Prop} (h : u.Rep S) (to : BitVec 64) : u.a &&& to = 0#64 ↔ ¬ Meets S to := by
 have hb : ∀ i : Nat, i < 64 → (u.a.getLsbD i = true ↔ S i) := fun i hi => by
  have := h i (by omega) (by omega)
  unfold W4.has W4.sel at this
  rw [show ((i : Int) / 64) = 0 from by omega, show ((i : Int) % 64).toNat = i from by omega] at this
  simpa using this
 constructor
 ·rintro h0 ⟨t, h1, h2, h3⟩
  have := congrArg (fun z => z.getLsbD t) h0
  simp [(hb t h1).2 h2, h3] at this
 ·intro hn
  apply BitVec.eq_of_getLsbD_eq
  intro i hi
  rw [BitVec.getLsbD_and]
  cases h1 : u.a.getLsbD i with
  | false => simp
  | true =>
   cases h2 : to.getLsbD i with
   | false => simp
   | true => exact absurd ⟨i, hi, (hb i hi).1 h1, h2⟩ hn
theorem back_run {x : List Bs} {y : List Q3} {next : List (Q7 × Q2)} (hx : Nx x y next) {n : Int} (hn : 0 ≤ n) (hn2 : n ≤ 24) (holds : List (Bs × Q2)) (to : BitVec 64) (a : Bs) :
 ∃ v : W4, Q39.f n holds next (Wd to) 0 0 0 a = some v.t ∧ v.Rep (fun s => 0 ≤ s ∧ s < n ∧ Meets (Hit x y ⟨s, a⟩) to) := by
 obtain ⟨r, hr, v, rfl, hv⟩ := Q68 (body := fun t_ : Int × Int × Int × Int × Int => Q39.l0b n next (Wd to) 0 0 0 a t_.1 t_.2.1 t_.2.2.1 t_.2.2.2.1 t_.2.2.2.2)
  (fun s => 0 ≤ s.2.2.2.2 ∧ s.2.2.2.2 ≤ n ∧ ∃ v : W4, (s.1, s.2.1, s.2.2.1, s.2.2.2.1) = v.t ∧ v.Rep (fun q => 0 ≤ q ∧ q < s.2.2.2.2 ∧ Meets (Hit x y ⟨q, a⟩) to))
  (fun r => ∃ v : W4, r = .inl v.t ∧ v.Rep (fun s => 0 ≤ s ∧ s < n ∧ Meets (Hit x y ⟨s, a⟩) to)) (fun s => (n - s.2.2.2.2).toNat)
  (fun ⟨w0, w1, w2, w3, i⟩ ⟨a0, a1, v, a2, a3⟩ => by
   dsimp only at a0 a1 a2 a3 ⊢
   simp only [W4.t, Prod.mk.injEq] at a2
   obtain ⟨rfl, rfl, rfl, rfl⟩ := a2
   unfold Q39.l0b
   by_cases hi : i < n
   ·right
    obtain ⟨u, hu, hur⟩ := hx ⟨i, a⟩
    rw [if_pos hi, hu, wrap64 (x := i + 1) (by omega) (by omega)]
    simp only [W4.s, Q94.f, Q157, band0, Option.bind_some, decide_true, Bool.and_true]
    by_cases hz : u.a &&& to = 0#64
    ·rw [if_pos (by rw [hz]; rfl), Q13]
     refine ⟨_, rfl, ⟨by dsimp only; omega, by dsimp only; omega, v, rfl, fun q q0 q1 => ?_⟩, by dsimp only; omega⟩
     rw [a3 q q0 q1]
     have hnm := (Q235 hur to).1 hz
     dsimp only
     constructor
     ·rintro ⟨h1, h2, h3⟩; exact ⟨h1, by omega, h3⟩
     ·rintro ⟨h1, h2, h3⟩
      refine ⟨h1, ?_, h3⟩
      have : q ≠ i := fun h => by subst h; exact hnm h3
      omega
    ·rw [if_neg (by rw [decide_eq_true_eq]; exact fun h => hz (wd_zero.1 h)), Q177, if_pos (by omega)]
     simp only [Option.bind_some, Q13]
     refine ⟨_, rfl, ⟨by dsimp only; omega, by dsimp only; omega, v.put i, rfl, fun q q0 q1 => ?_⟩, by dsimp only; omega⟩
     rw [W4.put_rep a3 a0 (by omega) q q0 q1]
     have hm : Meets (Hit x y ⟨i, a⟩) to := Classical.not_not.1 fun h => hz ((Q235 hur to).2 h)
     dsimp only
     constructor
     ·rintro (⟨h1, h2, h3⟩ | rfl)
      ·exact ⟨h1, by omega, h3⟩
      ·exact ⟨a0, by omega, hm⟩
     ·rintro ⟨h1, h2, h3⟩
      by_cases h : q = i
      ·exact .inr h
      ·exact .inl ⟨h1, by omega, h3⟩
   ·left
    rw [if_neg hi]
    refine ⟨_, rfl, v, rfl, ?_⟩
    have : i = n := by omega
    subst this
    exact a3) (0, 0, 0, 0, 0) ⟨Int.le_refl _, hn, W4.z, rfl, fun q q0 q1 => by
     rw [W4.z_rep q q0 q1]
     dsimp only
     constructor
     ·exact fun h => h.elim
     ·rintro ⟨h1, h2, _⟩; omega⟩
 refine ⟨v, ?_, hv⟩
 unfold Q39.f
 have hl : Q39.l0 n next (Wd to) 0 0 0 a 0 0 0 0 0 = some (.inl v.t) := hr
 rw [hl, Q13]
end Go.Bw
namespace Go.Bw
open Go Go.RowKit
theorem has_run {u : W4} {n : Int} : Q119.f (Wd u.a) (Wd u.b) (Wd u.c) (Wd u.d) n = some (decide (0 ≤ n ∧ n < 256) && u.has n) := by
 unfold Q119.f
 by_cases h0 : 0 ≤ n
 ·rw [if_pos h0, Q13]
  by_cases h1 : n < 256
  ·have hm : IntKind.u64.wrap (band .i64 n 63) = n % 64 := by rw [band63 h0 (by omega), wrapu (by omega) (by omega)]
   have hbit : ∀ v : BitVec 64, decide (band .u64 (Bw.shr .u64 (Wd v) (n % 64)) 1 = 1) = v.getLsbD (n % 64).toNat := fun v => by
    rw [Bool.eq_iff_iff, decide_eq_true_eq, bit_wd v (by omega) (by omega)]
   have hn : (0 : Int) ≤ n % 64 := by omega
   have hr : (0 : Int) ≤ n / 64 ∧ n / 64 < 4 := by omega
   rw [if_pos (decide_eq_true h1), shr6 h0, hm, if_pos hr, decide_eq_true (show 0 ≤ n ∧ n < 256 from ⟨h0, h1⟩), Bool.true_and]
   simp only [if_pos hn, hbit]
   unfold W4.has W4.sel
   by_cases k0 : n / 64 = 0
   ·simp [k0, jn]
   ·by_cases k1 : n / 64 = 1
    ·simp [k1, jn]
    ·by_cases k2 : n / 64 = 2
     ·simp [k2, jn]
     ·simp [k0, k1, k2, jn]
  ·rw [if_neg (by simp; omega), decide_eq_false (by omega)]
   rfl
 ·rw [if_neg h0, Q13, if_neg (by simp), decide_eq_false (by omega)]
  rfl
end Go.Bw
namespace Go.Bw
open Go Go.RowKit

section
variable {z : List Q4} {holds : List (Bs × Q2)}
noncomputable def hoW (hh : Hx z holds) (a : Bs) : W4 := (hh a).choose
theorem hoW_rep (hh : Hx z holds) (a : Bs) : (hoW hh a).Rep (fun t => ∃ p ∈ z, p.Name = a ∧ t ∈ p.States) := (hh a).choose_spec.2
theorem hoW_run (hh : Hx z holds) (n : Int) (next : List (Q7 × Q2)) (a : Bs) : Q65.f n holds next a = some (hoW hh a).t := by
 have h := (hh a).choose_spec.1
 unfold Q65.f
 rw [h]
 rfl
end
def sysC (n : Int) (x : List Bs) (y : List Q3) (z : List Q4) : Ctx := ⟨n, fun a s => ∃ p ∈ z, p.Name = a ∧ s ∈ p.States, fun a s t => Hit x y ⟨s, a⟩ t⟩
theorem sys_ok {n : Int} {x : List Bs} {y : List Q3} {z : List Q4} (R : RightS n x y z) : (sysC n x y z).Ok := by
 refine ⟨fun a s ⟨p, hp, _, hs⟩ => ?_, fun a s t ⟨e, he, h1, h2, _⟩ => ?_⟩
 ·exact (R.pr p hp).2.1 s hs
 ·have := R.ed e he
  unfold EdgeIn at this
  unfold Ctx.all sysC
  dsimp only at h1 h2 ⊢
  omega
theorem sys_tb {n : Int} {x : List Bs} {y : List Q3} {z : List Q4} (R : RightS n x y z) {holds : List (Bs × Q2)} {next : List (Q7 × Q2)} (hx : Nx x y next) (hh : Hx z holds) : Tb n holds next (sysC n x y z) := by
 have n0 := R.n0
 have n1 := R.n1
 refine ⟨rfl, n0, n1, sys_ok R, fun a => ?_, fun a v S hv hS => ?_⟩
 ·obtain ⟨e, hw⟩ := W4.word (n := n) (by omega) (hoW_rep hh a) (fun s hs => (sys_ok R).holds a s hs)
  refine ⟨(hoW hh a).a, ?_, hw⟩
  rw [hoW_run hh n next a, e]
  rfl
 ·obtain ⟨u, hu, hr⟩ := back_run hx (show 0 ≤ n by omega) (by omega) holds v a
  obtain ⟨e, hw⟩ := W4.word (n := n) (by omega) hr (fun s hs => ⟨hs.1, hs.2.1⟩)
  refine ⟨u.a, by rw [hu, e]; rfl, fun i hi => (hw i hi).trans ?_⟩
  constructor
  ·rintro ⟨_, _, t, ht, h1, h2⟩
   exact ⟨t, h1, (hv t ht).1 h2⟩
  ·rintro ⟨t, h1, h2⟩
   have h3 := (sys_ok R).edge a i t h1
   have h4 := h3.2
   unfold Ctx.all sysC at h3 h4
   dsimp only at h3 h4
   refine ⟨h3.1.1, h3.1.2, t.toNat, by omega, ?_, (hv t.toNat (by omega)).2 ?_⟩
   ·rw [show ((t.toNat : Nat) : Int) = t by omega]; exact h1
   ·rw [show ((t.toNat : Nat) : Int) = t by omega]; exact h2
theorem new_tab {n : Int} {x : List Bs} {y : List Q3} {z : List Q4} (hs : ∀ p ∈ z, (p.States.length : Int) ≤ 9223372036854775807) (R : RightS n x y z) : ∃ holds next, Q17.f n x y z = some (some ⟨n, holds, next⟩) ∧ Tb n holds next (sysC n x y z) := by
 obtain ⟨m0, hm0, hh⟩ := Q271 z (by have := R.nz; omega) hs (fun i j h0 h1 h2 => rise_ne R.rz h0 h1 h2)
 obtain ⟨m1, hm1, hx⟩ := l1_run n x y (by have := R.ny; omega) R.ed R.n1
 obtain ⟨b, hb, hf⟩ := Q220 n x y z hs
 have hbt : b = true := hf.2 R
 subst hbt
 exact ⟨m0, m1, by unfold Q17.f; rw [hb]; simp [hm0, hm1, jn], sys_tb R hx hh⟩
theorem Q245 {n : Int} {x : List Bs} {y : List Q3} {z : List Q4} (hs : ∀ p ∈ z, (p.States.length : Int) ≤ 9223372036854775807) (h : ¬ RightS n x y z) : Q17.f n x y z = some none := by
 obtain ⟨b, hb, hf⟩ := Q220 n x y z hs
 have hbt : b = false := by
  cases b with
  | false => rfl
  | true => exact absurd (hf.1 rfl) h
 subst hbt
 unfold Q17.f
 rw [hb]
 simp [jn]
end Go.Bw
namespace Go.Bw
open Go Go.RowKit

theorem wrap_neg (v : BitVec 64) : IntKind.u64.wrap (0 - Wd v) = Wd (-v) := by
 unfold Wd
 rw [BitVec.toNat_neg]
 have := v.isLt
 simp [IntKind.wrap, IntKind.bits, IntKind.signed]
 omega
theorem wrap_pred (v : BitVec 64) (h : v ≠ 0#64) : IntKind.u64.wrap (Wd v - 1) = Wd (v - 1#64) := by
 have h1 : Wd v ≠ 0 := fun e => h (Wd.inj (e.trans rfl))
 have h2 := Wd.lt v
 rw [wrapu (by omega) (by omega)]
 unfold Wd at *
 rw [BitVec.toNat_sub]
 have : (1#64).toNat = 1 := rfl
 rw [this]
 omega
theorem tz_tab : ∀ k : Fin 64, (0 ≤ Bw.shr .u64 (IntKind.u64.wrap (Wd (BitVec.twoPow 64 k.1) * 285870213051353865)) 58 ∧ Bw.shr .u64 (IntKind.u64.wrap (Wd (BitVec.twoPow 64 k.1) * 285870213051353865)) 58 < (64 : Int)) ∧
 IntKind.i64.wrap (gt Tryz.gtab0 (Bw.shr .u64 (IntKind.u64.wrap (Wd (BitVec.twoPow 64 k.1) * 285870213051353865)) 58)) = (k.1 : Int) := by decide +kernel
theorem tz_run {v : BitVec 64} {k : Nat} (hk : v.getLsbD k = true) (hb : ∀ i, i < k → v.getLsbD i = false) : Q33.f (Wd v) = some (k : Int) := by
 have hk64 := BitVec.lt_of_getLsbD hk
 have hv : Wd v ≠ 0 := fun e => by
  have : v = 0#64 := Wd.inj (e.trans rfl)
  rw [this] at hk
  simp at hk
 obtain ⟨h1, h2⟩ := tz_tab ⟨k, hk64⟩
 have hix : Q33.ix (Wd v) = Bw.shr .u64 (IntKind.u64.wrap (Wd (BitVec.twoPow 64 k) * 285870213051353865)) 58 := by
  unfold Q33.ix
  rw [wrap_neg, Q157, low_only hk hb]
 unfold Q33.f
 rw [if_neg hv, hix, if_pos h1, h2]
def wplaces (base : Int) (v : BitVec 64) : List Int := ((List.range 64).filter fun i => v.getLsbD i).map fun i : Nat => base + i
theorem Q323 (base : Int) : wplaces base 0#64 = [] := by
 unfold wplaces
 rw [List.filter_eq_nil_iff.2 (fun a _ => by simp)]
 rfl
theorem Q300 (base : Int) {v : BitVec 64} {k : Nat} (hk : v.getLsbD k = true) (hb : ∀ i, i < k → v.getLsbD i = false) : wplaces base v = (base + k) :: wplaces base (v &&& (v - 1#64)) := by
 have hk64 := BitVec.lt_of_getLsbD hk
 unfold wplaces
 have hr : List.range 64 = List.range k ++ k :: List.range' (k + 1) (63 - k) := by
  rw [List.range_eq_range', List.range_eq_range', show (64 : Nat) = k + (1 + (63 - k)) from by omega, ← List.range'_append_1, Nat.zero_add, Nat.add_comm 1, List.range'_succ]
 have e1 : (List.range k).filter (fun i => v.getLsbD i) = [] := List.filter_eq_nil_iff.2 fun a ha => by rw [hb a (by simpa using ha)]; simp
 have e2 : (List.range k).filter (fun i => (v &&& (v - 1#64)).getLsbD i) = [] := List.filter_eq_nil_iff.2 fun a ha => by rw [Q204 hk hb, hb a (by simpa using ha)]; simp
 have e3 : (List.range' (k + 1) (63 - k)).filter (fun i => v.getLsbD i) = (List.range' (k + 1) (63 - k)).filter (fun i => (v &&& (v - 1#64)).getLsbD i) := List.filter_congr fun a ha => by
  rw [Q204 hk hb]
  have : k + 1 ≤ a := (List.mem_range'_1.1 ha).1
  rw [decide_eq_false (by omega)]; simp
 have e4 : (v &&& (v - 1#64)).getLsbD k = false := by rw [Q204 hk hb]; simp
 rw [hr, List.filter_append, List.filter_append, e1, e2, List.filter_cons_of_pos (by simpa using hk), List.filter_cons_of_neg (by simp [e4]), e3]
 rfl
theorem Q144 (base : Int) (v : BitVec 64) : (wplaces base v).length ≤ 64 := by
 unfold wplaces
 rw [List.length_map]
 exact Nat.le_trans (List.length_filter_le _ _) (by simp)
theorem Q239 {base : Int} {v : BitVec 64} {t : Int} : t ∈ wplaces base v ↔ ∃ i : Nat, i < 64 ∧ v.getLsbD i = true ∧ t = base + i := by
 unfold wplaces
 rw [List.mem_map]
 constructor
 ·rintro ⟨i, hi, rfl⟩
  rw [List.mem_filter] at hi
  exact ⟨i, by simpa using hi.1, by simpa using hi.2, rfl⟩
 ·rintro ⟨i, h1, h2, rfl⟩
  exact ⟨i, List.mem_filter.2 ⟨by simpa using h1, by simpa using h2⟩, rfl⟩
theorem Q296 (base : Int) (v : BitVec 64) : (wplaces base v).Pairwise (· < ·) := by
 unfold wplaces
 rw [List.pairwise_map]
 refine (List.pairwise_lt_range (n := 64)).filter _ |>.imp fun h => by omega
noncomputable def listB (base : Int) (x : List Int) (v : Int) : Option (((List Int) × Int) ⊕ (((List Int)) ⊕ ((List Int)))) :=
 if v = 0 then
  dn (.inl x)
 else
  (Q33.f v).bind fun t =>
   if (x.length + ([(IntKind.i64.wrap (base + t))] : List Int).length) * 8 ≤ 140737488355328 then
    nx ((x ++ ([(IntKind.i64.wrap (base + t))] : List Int)), band .u64 v (IntKind.u64.wrap (v - 1)))
   else none
theorem Q187 {base : Int} (hb0 : 0 ≤ base) (hb1 : base ≤ 192) (acc : List Int) (ha : acc.length ≤ 192) (v : BitVec 64) :
 iter (fun t_ : List Int × Int => listB base t_.1 t_.2) (acc, Wd v) = some (.inl (acc ++ wplaces base v)) := by
 obtain ⟨r, hr, rfl⟩ := Q68 (body := fun t_ : List Int × Int => listB base t_.1 t_.2) (fun s => ∃ u : BitVec 64, s.2 = Wd u ∧ s.1 ++ wplaces base u = acc ++ wplaces base v)
  (fun r => r = .inl (acc ++ wplaces base v)) (fun s => (256 - s.1.length)) (fun ⟨x, w⟩ ⟨u, h1, h2⟩ => by
   dsimp only at h1 h2 ⊢
   subst h1
   unfold listB
   by_cases hu : u = 0#64
   ·left
    subst hu
    rw [Q323, List.append_nil] at h2
    rw [if_pos (show Wd 0#64 = 0 from rfl), h2]
    exact ⟨_, rfl, rfl⟩
   ·right
    obtain ⟨k, hk, hk1, hk2⟩ := low_ex hu
    have hw : Wd u ≠ 0 := fun e => hu (Wd.inj (e.trans rfl))
    have hp := Q300 base hk1 hk2
    have hlen : x.length + (wplaces base u).length = acc.length + (wplaces base v).length := by rw [← List.length_append, h2, List.length_append]
    have hpl := Q144 base v
    have hpu : 1 ≤ (wplaces base u).length := by rw [hp]; simp
    rw [if_neg hw, tz_run hk1 hk2, Option.bind_some, if_pos (by simp only [List.length_cons, List.length_nil]; omega), wrap_pred u hu, Q157, wrap64 (x := base + k) (by omega) (by omega)]
    refine ⟨_, rfl, ⟨_, rfl, ?_⟩, ?_⟩
    ·dsimp only
     rw [List.append_assoc, List.singleton_append, ← hp, h2]
    ·dsimp only
     rw [List.length_append, List.length_singleton]; omega) (acc, Wd v) ⟨v, rfl, rfl⟩
 exact hr
theorem band127 (n : Int) : 0 ≤ band .i64 n 127 ∧ band .i64 n 127 ≤ 127 := by
 show 0 ≤ IntKind.i64.wrap ((BitVec.ofInt 64 n &&& BitVec.ofInt 64 127).toNat : Int) ∧ _
 have e2 : (BitVec.ofInt 64 127).toNat = 2 ^ 7 - 1 := by rfl
 have e3 : (BitVec.ofInt 64 n &&& BitVec.ofInt 64 127).toNat = (BitVec.ofInt 64 n).toNat % 2 ^ 7 := by rw [BitVec.toNat_and, e2, Nat.and_two_pow_sub_one_eq_mod]
 have : (BitVec.ofInt 64 n).toNat % 2 ^ 7 < 2 ^ 7 := Nat.mod_lt _ (by decide)
 have h4 : band .i64 n 127 = IntKind.i64.wrap ((BitVec.ofInt 64 n &&& BitVec.ofInt 64 127).toNat : Int) := rfl
 rw [h4, e3, wrap64 (by omega) (by omega)]
 omega
theorem Q185 (a : Int) : ∃ t, Q22.f a = some t ∧ 0 ≤ t ∧ t ≤ 127 := ⟨_, rfl, band127 _⟩
theorem len_run (a b c d : Int) : ∃ t, Q125.f a b c d = some t ∧ 0 ≤ t ∧ t ≤ 508 := by
 obtain ⟨t1, h1, a1, b1⟩ := Q185 a
 obtain ⟨t2, h2, a2, b2⟩ := Q185 b
 obtain ⟨t3, h3, a3, b3⟩ := Q185 c
 obtain ⟨t4, h4, a4, b4⟩ := Q185 d
 refine ⟨t1 + t2 + t3 + t4, ?_, by omega, by omega⟩
 unfold Q125.f
 rw [h1, h2, h3, h4]
 simp only [Option.bind_some]
 rw [wrap64 (x := 0 + t1) (by omega) (by omega), wrap64 (x := 0 + t1 + t2) (by omega) (by omega), wrap64 (x := 0 + t1 + t2 + t3) (by omega) (by omega), wrap64 (x := 0 + t1 + t2 + t3 + t4) (by omega) (by omega)]
 congr 1
 omega
def W4.list (u : W4) : List Int := wplaces 0 u.a ++ wplaces 64 u.b ++ wplaces 128 u.c ++ wplaces 192 u.d
theorem list_run (u : W4) : Q19.f (Wd u.a) (Wd u.b) (Wd u.c) (Wd u.d) = some u.list := by
 obtain ⟨t, ht, t0, t1⟩ := len_run (Wd u.a) (Wd u.b) (Wd u.c) (Wd u.d)
 have la := Q144 0 u.a
 have lb := Q144 64 u.b
 have lc := Q144 128 u.c
 have e0 : Q19.l0 [] (Wd u.a) = some (.inl ([] ++ wplaces 0 u.a)) := Q187 (base := 0) (by decide) (by decide) [] (by simp) u.a
 have e1 : Q19.l1 ([] ++ wplaces 0 u.a) (Wd u.b) = some (.inl (([] ++ wplaces 0 u.a) ++ wplaces 64 u.b)) := Q187 (base := 64) (by decide) (by decide) _ (by simp; omega) u.b
 have e2 : Q19.l2 (([] ++ wplaces 0 u.a) ++ wplaces 64 u.b) (Wd u.c) = some (.inl ((([] ++ wplaces 0 u.a) ++ wplaces 64 u.b) ++ wplaces 128 u.c)) := Q187 (base := 128) (by decide) (by decide) _ (by simp; omega) u.c
 have e3 : Q19.l3 ((([] ++ wplaces 0 u.a) ++ wplaces 64 u.b) ++ wplaces 128 u.c) (Wd u.d) = some (.inl (((([] ++ wplaces 0 u.a) ++ wplaces 64 u.b) ++ wplaces 128 u.c) ++ wplaces 192 u.d)) := Q187 (base := 192) (by decide) (by decide) _ (by simp; omega) u.d
 unfold Q19.f
 rw [ht, Option.bind_some, if_pos (by omega), e0, Q13, e1, Q13, e2, Q13, e3, Q13]
 rfl
theorem mem_list {u : W4} {S : Int → Prop} (h : u.Rep S) {t : Int} : t ∈ u.list ↔ 0 ≤ t ∧ t < 256 ∧ S t := by
 have key : ∀ (k : Int) (i : Nat), 0 ≤ k → k < 4 → i < 64 → ((u.sel k).getLsbD i = true ↔ S (64 * k + i)) := fun k i k0 k1 hi => by
  have := h (64 * k + i) (by omega) (by omega)
  unfold W4.has at this
  rwa [show (64 * k + (i : Int)) / 64 = k from by omega, show ((64 * k + (i : Int)) % 64).toNat = i from by omega] at this
 have kk : ∀ (k : Int), 0 ≤ k → k < 4 → (t ∈ wplaces (64 * k) (u.sel k) ↔ 64 * k ≤ t ∧ t < 64 * k + 64 ∧ S t) := fun k k0 k1 => by
  rw [Q239]
  constructor
  ·rintro ⟨i, hi, h1, rfl⟩
   exact ⟨by omega, by omega, (key k i k0 k1 hi).1 h1⟩
  ·rintro ⟨h1, h2, h3⟩
   refine ⟨(t - 64 * k).toNat, by omega, (key k _ k0 k1 (by omega)).2 ?_, by omega⟩
   rwa [show 64 * k + ((t - 64 * k).toNat : Int) = t from by omega]
 have k0 := kk 0 (by decide) (by decide)
 have k1 := kk 1 (by decide) (by decide)
 have k2 := kk 2 (by decide) (by decide)
 have k3 := kk 3 (by decide) (by decide)
 simp [W4.sel] at k0 k1 k2 k3
 unfold W4.list
 rw [List.mem_append, List.mem_append, List.mem_append, k0, k1, k2, k3]
 constructor
 ·rintro (((⟨a, b, c⟩ | ⟨a, b, c⟩) | ⟨a, b, c⟩) | ⟨a, b, c⟩) <;> exact ⟨by omega, by omega, c⟩
 ·rintro ⟨a, b, c⟩
  by_cases h1 : t < 64
  ·exact .inl (.inl (.inl ⟨a, h1, c⟩))
  ·by_cases h2 : t < 128
   ·exact .inl (.inl (.inr ⟨by omega, by omega, c⟩))
   ·by_cases h3 : t < 192
    ·exact .inl (.inr ⟨by omega, by omega, c⟩)
    ·exact .inr ⟨by omega, by omega, c⟩
theorem list_len (u : W4) : u.list.length ≤ 256 := by
 have a := Q144 0 u.a
 have b := Q144 64 u.b
 have c := Q144 128 u.c
 have d := Q144 192 u.d
 unfold W4.list
 simp only [List.length_append]
 omega
end Go.Bw
namespace Go.Bw
open Go Go.RowKit

theorem den_more {C D : Ctx} (hN : C.N = D.N) (hh : ∀ a s, C.holds a s → D.holds a s) (he : ∀ a s t, C.edge a s t → D.edge a s t) {f : List Q1} (hf : ∀ m, 0 ≤ m → m < (f.length : Int) → (gt f m).Kind ≠ 5 ∧ (gt f m).Kind ≠ 12 ∧ (gt f m).Kind ≠ 9) {to : List Int} {sc : List (Int × Bool)} {l n : Int} (b : Bd f to sc l n) :
 ∀ {E E' : Int → PS}, (∀ p ∈ sc, n < p.1) → (∀ p ∈ sc, Le (E p.1) (E' p.1)) → Le (den C f to n E) (den D f to n E') := by
 have hall : C.all = D.all := by unfold Ctx.all; rw [hN]
 induction b with
 | @var sc n h0 h1 hk hs => intro E E' hn h; rw [Q161 hk, Q161 hk]; exact h _ hs
 | @leaf sc n h0 h1 hk h4 =>
  intro E E' hn h
  rcases hk with hk | hk | hk | hk | hk
  ·rw [Q168 hk, Q168 hk, hall]; exact fun _ h => h
  ·rw [Q163 hk, Q163 hk]; exact fun _ h => h
  ·rw [Q162 hk, Q162 hk]; exact hh _
  ·exact absurd hk h4
  ·exact absurd hk (hf n h0 h1).2.1
 | @not sc l n h1 hk ha s ih =>
  intro E E' hn h
  have := s.le
  exact absurd hk (hf n (by omega) h1).1
 | @modal sc l n h1 hk ha s ih =>
  intro E E' hn h
  have := s.le
  rcases hk with hk | hk
  ·rw [Q170 hk ha (by omega), Q170 hk ha (by omega)]
   rintro t ⟨u, h1, h2⟩
   exact ⟨u, he _ _ _ h1, ih (fun p hp => by have := hn p hp; omega) h u h2⟩
  ·exact absurd hk (hf n (by omega) h1).2.2
 | @fix sc l n h1 hk ha s ih =>
  intro E E' hn h
  have := s.le
  have step : ∀ S, Le (den C f to (n - 1) (updE E n S)) (den D f to (n - 1) (updE E' n S)) := fun S => ih (fun p hp => by
   rcases List.mem_cons.1 hp with rfl | hp
   ·dsimp only; omega
   ·have := hn p hp; omega) fun p hp => by
   rcases List.mem_cons.1 hp with rfl | hp
   ·rw [Q145, Q145]; exact fun _ h => h
   ·have := hn p hp
    rw [Q154 (by omega), Q154 (by omega)]
    exact h p hp
  rcases hk with hk | hk
  ·rw [Q160 hk ha (by omega), Q160 hk ha (by omega)]
   exact Q254 step
  ·rw [Q167 hk ha (by omega), Q167 hk ha (by omega), hall]
   exact Q249 fun S t ht => ⟨ht.1, step S t ht.2⟩
 | @two sc l q n h1 hk ha hb s t ih1 ih2 =>
  intro E E' hn h
  have := s.le
  have := t.le
  have i1 := ih1 (fun p hp => by have := hn p hp; omega) h
  have i2 := ih2 (fun p hp => by have := hn p hp; omega) h
  rcases hk with hk | hk
  ·rw [Q164 hk ha hb (by omega) (by omega), Q164 hk ha hb (by omega) (by omega)]
   exact fun u hu => ⟨i1 u hu.1, i2 u hu.2⟩
  ·rw [Q158 hk ha hb (by omega) (by omega), Q158 hk ha hb (by omega) (by omega)]
   exact fun u hu => hu.elim (fun h => .inl (i1 u h)) fun h => .inr (i2 u h)
section
variable {n fr tt : Int} {x : List Bs} {y : List Q3} {z : List Q4} {next : List (Q7 × Q2)} {holds : List (Bs × Q2)}
noncomputable def moB (hx : Nx x y next) (fr tt s a t : Int) : Bool := decide (s = fr ∧ a = 0 ∧ t = tt) || (nxW hx s (gt x a)).has t
noncomputable def mo4k (hx : Nx x y next) (fr tt s a : Int) (k : Nat) : List Q3 := ((List.range k).filter fun t : Nat => moB hx fr tt s a t).map fun t : Nat => ⟨s, a, (t : Int)⟩
noncomputable def mo3k (hx : Nx x y next) (n fr tt s : Int) (k : Nat) : List Q3 := (List.range k).flatMap fun a : Nat => mo4k hx fr tt s a n.toNat
noncomputable def mo1k (hx : Nx x y next) (n fr tt : Int) (k : Nat) : List Q3 := (List.range k).flatMap fun s : Nat => mo3k hx n fr tt s x.length
noncomputable def moE (hx : Nx x y next) (n fr tt : Int) : List Q3 := mo1k hx n fr tt n.toNat
theorem Q238 (hx : Nx x y next) (s a : Int) (k : Nat) : (mo4k hx fr tt s a k).length ≤ k := by
 unfold mo4k
 rw [List.length_map]
 exact Nat.le_trans (List.length_filter_le _ _) (by simp)
theorem Q247 (hx : Nx x y next) (hn : n ≤ 24) (s : Int) (k : Nat) : (mo3k hx n fr tt s k).length ≤ k * 24 :=
 fm_len (fun a => Nat.le_trans (Q238 hx s a _) (by omega)) k
theorem mo1k_len (hx : Nx x y next) (hn : n ≤ 24) (hl : x.length ≤ 8) (k : Nat) : (mo1k hx n fr tt k).length ≤ k * 192 :=
 fm_len (fun s => Nat.le_trans (Q247 hx hn s _) (by omega)) k
theorem Q219 (hx : Nx x y next) (hn : 0 ≤ n ∧ n ≤ 24) {e : Q3} : e ∈ moE hx n fr tt ↔ (0 ≤ e.From ∧ e.From < n) ∧ (0 ≤ e.Action ∧ e.Action < (x.length : Int)) ∧ (0 ≤ e.To ∧ e.To < n) ∧ ((e.From = fr ∧ e.Action = 0 ∧ e.To = tt) ∨ Hit x y ⟨e.From, gt x e.Action⟩ e.To) := by
 unfold moE mo1k mo3k mo4k
 constructor
 ·intro h
  obtain ⟨s, hs, h⟩ := List.mem_flatMap.1 h
  obtain ⟨a, ha, h⟩ := List.mem_flatMap.1 h
  obtain ⟨t, ht, rfl⟩ := List.mem_map.1 h
  rw [List.mem_filter] at ht
  rw [List.mem_range] at hs ha
  have h1 := List.mem_range.1 ht.1
  refine ⟨by dsimp only; omega, by dsimp only; omega, by dsimp only; omega, ?_⟩
  have h2 := ht.2
  unfold moB at h2
  rw [Bool.or_eq_true, decide_eq_true_eq] at h2
  rcases h2 with h2 | h2
  ·exact .inl h2
  ·exact .inr ((nxW_rep hx (s : Int) (gt x (a : Int)) (t : Int) (by omega) (by omega)).1 h2)
 ·rintro ⟨h1, h2, h3, h4⟩
  refine List.mem_flatMap.2 ⟨e.From.toNat, List.mem_range.2 (by omega), List.mem_flatMap.2 ⟨e.Action.toNat, List.mem_range.2 (by omega), List.mem_map.2 ⟨e.To.toNat, List.mem_filter.2 ⟨List.mem_range.2 (by omega), ?_⟩, ?_⟩⟩⟩
  ·rw [show ((e.From.toNat : Nat) : Int) = e.From by omega, show ((e.Action.toNat : Nat) : Int) = e.Action by omega, show ((e.To.toNat : Nat) : Int) = e.To by omega]
   unfold moB
   rw [Bool.or_eq_true, decide_eq_true_eq]
   rcases h4 with h4 | h4
   ·exact .inl h4
   ·exact .inr ((nxW_rep hx _ _ _ h3.1 (by omega)).2 h4)
  ·rw [show ((e.From.toNat : Nat) : Int) = e.From by omega, show ((e.Action.toNat : Nat) : Int) = e.Action by omega, show ((e.To.toNat : Nat) : Int) = e.To by omega]
theorem moE_pw (hx : Nx x y next) : (moE hx n fr tt).Pairwise edgeLt := by
 have h4 : ∀ s a : Int, (mo4k hx fr tt s a n.toNat).Pairwise edgeLt := fun s a => by
  unfold mo4k
  rw [List.pairwise_map]
  refine ((List.pairwise_lt_range (n := n.toNat)).filter _).imp fun {i j} h => ?_
  unfold edgeLt
  dsimp only
  omega
 have m4 : ∀ {s a : Int} {e : Q3}, e ∈ mo4k hx fr tt s a n.toNat → e.From = s ∧ e.Action = a := fun {s a e} h => by
  obtain ⟨t, _, rfl⟩ := List.mem_map.1 h
  exact ⟨rfl, rfl⟩
 have h3 : ∀ s : Int, (mo3k hx n fr tt s x.length).Pairwise edgeLt := fun s => by
  unfold mo3k
  rw [List.pairwise_flatMap]
  refine ⟨fun a _ => h4 s a, (List.pairwise_lt_range (n := x.length)).imp fun {a b} h u hu v hv => ?_⟩
  have h1 := m4 hu
  have h2 := m4 hv
  unfold edgeLt
  omega
 unfold moE mo1k
 rw [List.pairwise_flatMap]
 refine ⟨fun s _ => h3 s, (List.pairwise_lt_range (n := n.toNat)).imp fun {i j} h u hu v hv => ?_⟩
 unfold mo3k at hu hv
 obtain ⟨a, _, hu⟩ := List.mem_flatMap.1 hu
 obtain ⟨b, _, hv⟩ := List.mem_flatMap.1 hv
 have h1 := m4 hu
 have h2 := m4 hv
 unfold edgeLt
 omega
theorem m4_run (hx : Nx x y next) (hn : 0 ≤ n ∧ n ≤ 24) {s a : Int} (a0 : 0 ≤ a) (a1 : a < (x.length : Int)) (acc : List Q3) (ha : acc.length ≤ 9000) :
 Q15.l4 n x fr tt s a acc (some ⟨n, holds, next⟩) 0 = some (.inl (acc ++ mo4k hx fr tt s a n.toNat, some ⟨n, holds, next⟩)) := by
 have key : ∀ (q k : Nat), k + q = n.toNat → iter (fun t_ : (List Q3) × (Option Q11) × Int => Q15.l4b n x fr tt s a t_.1 t_.2.1 t_.2.2) (acc ++ mo4k hx fr tt s a k, some ⟨n, holds, next⟩, (k : Int)) = some (.inl (acc ++ mo4k hx fr tt s a n.toNat, some ⟨n, holds, next⟩)) := fun q => by
  induction q with
  | zero =>
   intro k hk
   have hkn : k = n.toNat := by omega
   refine Q196 ?_
   simp only [Q15.l4b]
   rw [if_neg (by omega), hkn]
   rfl
  | succ q ih =>
   intro k hk
   have hl := Q238 (fr := fr) (tt := tt) hx s a k
   have hstep : mo4k hx fr tt s a (k + 1) = mo4k hx fr tt s a k ++ (if moB hx fr tt s a k = true then [⟨s, a, (k : Int)⟩] else []) := by
    unfold mo4k
    rw [List.range_succ, List.filter_append, List.map_append]
    by_cases hc : moB hx fr tt s a k = true
    ·rw [if_pos hc, List.filter_cons_of_pos (by simpa using hc)]; rfl
    ·rw [if_neg hc, List.filter_cons_of_neg (by simpa using hc)]; rfl
   have hb : Q15.l4b n x fr tt s a (acc ++ mo4k hx fr tt s a k) (some ⟨n, holds, next⟩) (k : Int) = some (.inl (acc ++ mo4k hx fr tt s a (k + 1), some ⟨n, holds, next⟩, ((k + 1 : Nat) : Int))) := by
    simp only [Q15.l4b]
    have hw : IntKind.i64.wrap ((k : Int) + 1) = ((k + 1 : Nat) : Int) := by rw [wrap64 (by omega) (by omega)]; omega
    have hcond : (decide (s = fr) && (decide (a = 0) && (decide ((k : Int) = tt) && true))) = decide (s = fr ∧ a = 0 ∧ (k : Int) = tt) := by
     rw [Bool.eq_iff_iff]; simp
    rw [if_pos (show (k : Int) < n by omega), hcond, hw, hstep]
    by_cases hp : s = fr ∧ a = 0 ∧ (k : Int) = tt
    ·have hm : moB hx fr tt s a k = true := by unfold moB; rw [decide_eq_true hp, Bool.true_or]
     rw [if_pos (decide_eq_true hp), if_pos hm, Q13]
     dsimp only
     rw [if_pos rfl, if_pos (by simp; omega), Q13, List.append_assoc]
     rfl
    ·have hm : moB hx fr tt s a k = (nxW hx s (gt x a)).has k := by unfold moB; rw [decide_eq_false hp, Bool.false_or]
     rw [if_neg (by simpa using hp), if_pos ⟨a0, a1⟩, hm]
     simp only [Option.isNone_some, if_true, Option.getD_some, nxW_run hx, Option.bind_some, W4.t, has_run, decide_eq_true (show 0 ≤ (k : Int) ∧ (k : Int) < 256 by omega), Bool.true_and, Q13]
     by_cases hc : (nxW hx s (gt x a)).has k = true
     ·rw [if_pos hc, if_pos hc, if_pos (by simp; omega), Q13, List.append_assoc]
      rfl
     ·rw [if_neg hc, if_neg hc, Q13, List.append_nil]
      rfl
   rw [Q193 (body := fun t_ : (List Q3) × (Option Q11) × Int => Q15.l4b n x fr tt s a t_.1 t_.2.1 t_.2.2) hb]
   exact ih (k + 1) (by omega)
 have := key n.toNat 0 (by omega)
 have e0 : acc ++ mo4k hx fr tt s a 0 = acc := by unfold mo4k; simp
 rw [e0] at this
 exact this
theorem m3_run (hx : Nx x y next) (hn : 0 ≤ n ∧ n ≤ 24) (hl8 : x.length ≤ 8) {s : Int} (acc : List Q3) (ha : acc.length ≤ 8000) :
 Q15.l3 n x fr tt s acc (some ⟨n, holds, next⟩) 0 = some (.inl (acc ++ mo3k hx n fr tt s x.length, some ⟨n, holds, next⟩)) := by
 have key : ∀ (q k : Nat), k + q = x.length → iter (fun t_ : (List Q3) × (Option Q11) × Int => Q15.l3b n x fr tt s t_.1 t_.2.1 t_.2.2) (acc ++ mo3k hx n fr tt s k, some ⟨n, holds, next⟩, (k : Int)) = some (.inl (acc ++ mo3k hx n fr tt s x.length, some ⟨n, holds, next⟩)) := fun q => by
  induction q with
  | zero =>
   intro k hk
   have hkn : k = x.length := by omega
   refine Q196 ?_
   simp only [Q15.l3b]
   rw [if_neg (by omega), hkn]
   rfl
  | succ q ih =>
   intro k hk
   have hfm := Q247 (fr := fr) (tt := tt) hx hn.2 s k
   have h4 := m4_run (fr := fr) (tt := tt) (holds := holds) hx hn (s := s) (a := (k : Int)) (by omega) (by omega) (acc ++ mo3k hx n fr tt s k) (by rw [List.length_append]; omega)
   have hb : Q15.l3b n x fr tt s (acc ++ mo3k hx n fr tt s k) (some ⟨n, holds, next⟩) (k : Int) = some (.inl (acc ++ mo3k hx n fr tt s (k + 1), some ⟨n, holds, next⟩, ((k + 1 : Nat) : Int))) := by
    simp only [Q15.l3b]
    rw [if_pos (by omega), h4, Q13, wrap64 (x := (k : Int) + 1) (by omega) (by omega)]
    have : mo3k hx n fr tt s (k + 1) = mo3k hx n fr tt s k ++ mo4k hx fr tt s k n.toNat := by
     unfold mo3k
     rw [List.range_succ, List.flatMap_append]
     simp
    rw [this, List.append_assoc]
    rfl
   rw [Q193 (body := fun t_ : (List Q3) × (Option Q11) × Int => Q15.l3b n x fr tt s t_.1 t_.2.1 t_.2.2) hb]
   exact ih (k + 1) (by omega)
 have := key x.length 0 (by omega)
 have e0 : acc ++ mo3k hx n fr tt s 0 = acc := by unfold mo3k; simp
 rw [e0] at this
 exact this
theorem m1_run (hx : Nx x y next) (hn : 0 ≤ n ∧ n ≤ 24) (hl8 : x.length ≤ 8) : Q15.l1 n x fr tt [] (some ⟨n, holds, next⟩) 0 = some (.inl (moE hx n fr tt, some ⟨n, holds, next⟩)) := by
 have key : ∀ (q k : Nat), k + q = n.toNat → iter (fun t_ : (List Q3) × (Option Q11) × Int => Q15.l1b n x fr tt t_.1 t_.2.1 t_.2.2) (mo1k hx n fr tt k, some ⟨n, holds, next⟩, (k : Int)) = some (.inl (moE hx n fr tt, some ⟨n, holds, next⟩)) := fun q => by
  induction q with
  | zero =>
   intro k hk
   have hkn : k = n.toNat := by omega
   refine Q196 ?_
   simp only [Q15.l1b]
   rw [if_neg (by omega), hkn]
   rfl
  | succ q ih =>
   intro k hk
   have hfm := mo1k_len (fr := fr) (tt := tt) hx hn.2 hl8 k
   have h3 := m3_run (fr := fr) (tt := tt) (holds := holds) hx hn hl8 (s := (k : Int)) (mo1k hx n fr tt k) (by omega)
   have hb : Q15.l1b n x fr tt (mo1k hx n fr tt k) (some ⟨n, holds, next⟩) (k : Int) = some (.inl (mo1k hx n fr tt (k + 1), some ⟨n, holds, next⟩, ((k + 1 : Nat) : Int))) := by
    simp only [Q15.l1b]
    rw [if_pos (by omega), h3, Q13, wrap64 (x := (k : Int) + 1) (by omega) (by omega)]
    have : mo1k hx n fr tt (k + 1) = mo1k hx n fr tt k ++ mo3k hx n fr tt k x.length := by
     unfold mo1k
     rw [List.range_succ, List.flatMap_append]
     simp
    rw [this]
    rfl
   rw [Q193 (body := fun t_ : (List Q3) × (Option Q11) × Int => Q15.l1b n x fr tt t_.1 t_.2.1 t_.2.2) hb]
   exact ih (k + 1) (by omega)
 have := key n.toNat 0 (by omega)
 have e0 : mo1k hx n fr tt 0 = [] := by unfold mo1k; simp
 rw [e0] at this
 exact this
noncomputable def moP (hh : Hx z holds) (tt : Int) (p : Q4) : Q4 := ⟨p.Name, (W4.put (hoW hh p.Name) tt).list⟩
theorem moP_mem (hh : Hx z holds) (ht : 0 ≤ tt ∧ tt < n) (hn : n ≤ 24) {p : Q4} {s : Int} : s ∈ (moP hh tt p).States ↔ 0 ≤ s ∧ s < 256 ∧ ((∃ q ∈ z, q.Name = p.Name ∧ s ∈ q.States) ∨ s = tt) :=
 mem_list (W4.put_rep (hoW_rep hh p.Name) ht.1 (by omega))
end
section
variable {n fr tt : Int} {x : List Bs} {y : List Q3} {z : List Q4} {next : List (Q7 × Q2)} {holds : List (Bs × Q2)}
theorem moP_rise (hh : Hx z holds) (p : Q4) : (moP hh tt p).States.Pairwise (· < ·) := by
 unfold moP W4.list
 dsimp only
 have r := fun b w => Q296 b w
 have lo : ∀ {b : Int} {w : BitVec 64} {t : Int}, t ∈ wplaces b w → b ≤ t ∧ t < b + 64 := fun {b w t} h => by
  obtain ⟨i, hi, _, rfl⟩ := Q239.1 h
  omega
 rw [List.pairwise_append, List.pairwise_append, List.pairwise_append]
 refine ⟨⟨⟨r _ _, r _ _, fun a ha b hb => ?_⟩, r _ _, fun a ha b hb => ?_⟩, r _ _, fun a ha b hb => ?_⟩
 ·have := lo ha; have := lo hb; omega
 ·rcases List.mem_append.1 ha with ha | ha
  ·have := lo ha; have := lo hb; omega
  ·have := lo ha; have := lo hb; omega
 ·rcases List.mem_append.1 ha with ha | ha
  ·rcases List.mem_append.1 ha with ha | ha
   ·have := lo ha; have := lo hb; omega
   ·have := lo ha; have := lo hb; omega
  ·have := lo ha; have := lo hb; omega
theorem Q324 (R : RightS n x y z) (hx : Nx x y next) (hh : Hx z holds) (hf : 0 ≤ fr ∧ fr < n) (ht : 0 ≤ tt ∧ tt < n) : (RightS n x (moE hx n fr tt) (z.map (moP hh tt)) ↔ (moE hx n fr tt).length ≤ 200) := by
 have n0 := R.n0
 have n1 := R.n1
 refine ⟨fun h => h.ny, fun hl => ⟨n0, n1, R.nx, by rw [List.length_map]; exact R.nz, hl, fun e he => ?_, fun p hp => ?_, R.nm, fun k k0 k1 => ?_, rise_of (moE_pw hx), R.rx, rise_mapp (lt := fun p q => BLt p.Name q.Name) (moP hh tt) R.rz fun u v h => h⟩⟩
 ·have := (Q219 hx ⟨by omega, n1⟩).1 he
  unfold EdgeIn
  omega
 ·obtain ⟨p0, hp0, rfl⟩ := List.mem_map.1 hp
  have hP := R.pr p0 hp0
  refine ⟨hP.1, fun s hs => ?_, rise_of (moP_rise hh p0)⟩
  obtain ⟨h0, h1, h2⟩ := (moP_mem hh ht n1).1 hs
  rcases h2 with ⟨q, hq, _, hm⟩ | h2
  ·exact (R.pr q hq).2.1 s hm
  ·omega
 ·obtain ⟨e, he, hk⟩ := R.us k k0 k1
  have hE := R.ed e he
  unfold EdgeIn at hE
  refine ⟨e, (Q219 hx ⟨by omega, n1⟩).2 ⟨⟨hE.1, hE.2.1⟩, ⟨hE.2.2.2.2.1, hE.2.2.2.2.2⟩, ⟨hE.2.2.1, hE.2.2.2.1⟩, .inr ⟨e, he, rfl, rfl, .inl rfl⟩⟩, hk⟩
theorem m2_run (hh : Hx z holds) (R : RightS n x y z) (ht : 0 ≤ tt ∧ tt < n) : Q15.l2 z tt [] (some ⟨n, holds, next⟩) 0 = some (.inl (z.map (moP hh tt), some ⟨n, holds, next⟩)) := by
 have n1 := R.n1
 have nz := R.nz
 have key : ∀ (q k : Nat), k + q = z.length → iter (fun t_ : (List Q4) × (Option Q11) × Int => Q15.l2b z tt t_.1 t_.2.1 t_.2.2) ((z.take k).map (moP hh tt), some ⟨n, holds, next⟩, (k : Int)) = some (.inl (z.map (moP hh tt), some ⟨n, holds, next⟩)) := fun q => by
  induction q with
  | zero =>
   intro k hk
   have hkn : k = z.length := by omega
   refine Q196 ?_
   simp only [Q15.l2b]
   rw [if_neg (by omega), hkn, List.take_length]
   rfl
  | succ q ih =>
   intro k hk
   have hlt : k < z.length := by omega
   have hg : gt z (k : Int) = z[k] := Q126 (List.getElem?_eq_getElem hlt)
   have hb : Q15.l2b z tt ((z.take k).map (moP hh tt)) (some ⟨n, holds, next⟩) (k : Int) = some (.inl ((z.take (k + 1)).map (moP hh tt), some ⟨n, holds, next⟩, ((k + 1 : Nat) : Int))) := by
    simp only [Q15.l2b]
    rw [if_pos (by omega), if_pos (by omega)]
    simp only [Option.getD_some, hoW_run hh, Option.bind_some, W4.t, Q177]
    rw [if_pos (show 0 ≤ tt ∧ tt < 256 by omega)]
    simp only [list_run, Option.bind_some, Option.isNone_some, if_true]
    rw [if_pos (by simp; omega), wrap64 (x := (k : Int) + 1) (by omega) (by omega), List.take_add_one, List.getElem?_eq_getElem hlt, hg]
    simp only [Option.toList_some, List.map_append, List.map_cons, List.map_nil]
    rfl
   rw [Q193 (body := fun t_ : (List Q4) × (Option Q11) × Int => Q15.l2b z tt t_.1 t_.2.1 t_.2.2) hb]
   exact ih (k + 1) (by omega)
 exact key z.length 0 (by omega)
end
theorem m0_run (f : List Q1) (hl : (f.length : Int) ≤ 9223372036854775800) : Q15.l0 f 0 = some (.inr true) ∨ Q15.l0 f 0 = some (.inl ()) ∧ ∀ m, 0 ≤ m → m < (f.length : Int) → (gt f m).Kind ≠ 5 ∧ (gt f m).Kind ≠ 12 ∧ (gt f m).Kind ≠ 9 := by
 obtain ⟨r, hr, hq⟩ := Q68 (body := fun t_ : Int => Q15.l0b f t_) (fun i => 0 ≤ i ∧ ∀ m, 0 ≤ m → m < i → m < (f.length : Int) → (gt f m).Kind ≠ 5 ∧ (gt f m).Kind ≠ 12 ∧ (gt f m).Kind ≠ 9)
  (fun r => r = .inr true ∨ r = .inl () ∧ ∀ m, 0 ≤ m → m < (f.length : Int) → (gt f m).Kind ≠ 5 ∧ (gt f m).Kind ≠ 12 ∧ (gt f m).Kind ≠ 9) (fun i => ((f.length : Int) - i).toNat) (fun i ⟨i0, hp⟩ => by
   unfold Q15.l0b
   by_cases hi : i < (f.length : Int)
   ·rw [if_pos hi, if_pos ⟨i0, hi⟩]
    by_cases k5 : (gt f i).Kind = 5
    ·left; simp only [if_pos k5, Q13, if_true]; exact ⟨_, rfl, .inl rfl⟩
    by_cases k12 : (gt f i).Kind = 12
    ·left; simp only [if_neg k5, Q13, decide_eq_true k12, if_true]; exact ⟨_, rfl, .inl rfl⟩
    by_cases k9 : (gt f i).Kind = 9
    ·left; simp only [if_neg k5, Q13, decide_eq_false k12, decide_eq_true k9, if_true, Bool.false_eq_true, if_false]; exact ⟨_, rfl, .inl rfl⟩
    right
    simp only [if_neg k5, Q13, decide_eq_false k12, decide_eq_false k9, Bool.false_eq_true, if_false]
    rw [wrap64 (x := i + 1) (by omega) (by omega)]
    refine ⟨_, rfl, ⟨by omega, fun m m0 m1 m2 => ?_⟩, by omega⟩
    by_cases hm : m = i
    ·subst hm; exact ⟨k5, k12, k9⟩
    ·exact hp m m0 (by omega) m2
   ·left
    rw [if_neg hi]
    exact ⟨_, rfl, .inr ⟨rfl, fun m m0 m1 => hp m m0 (by omega) m1⟩⟩) 0 ⟨Int.le_refl 0, fun m m0 m1 => by omega⟩
 have hr' : Q15.l0 f 0 = some r := hr
 rcases hq with rfl | ⟨rfl, h⟩
 ·exact .inl hr'
 ·exact .inr ⟨hr', h⟩
theorem in_wd2 {u v : BitVec 64} {S T : PS} (hu : Ws u S) (hv : Ws v T) (h : Le S T) : Q129.f (Wd u) 0 0 0 (Wd v) 0 0 0 = some true := by
 unfold Q129.f Q95.f
 rw [Q237, bandnot00, Option.bind_some]
 have : u &&& ~~~ v = 0#64 := Ws.uniq (S := fun _ => False) (fun i hi => by
  rw [hu.minus hv i hi]
  exact ⟨fun q => q.2 (h _ q.1), fun q => q.elim⟩) Ws.none
 rw [this]
 rfl
theorem more_run (n : Int) (x : List Bs) (y : List Q3) (z : List Q4) (f : List Q1) (fr tt : Int) (hs : ∀ p ∈ z, (p.States.length : Int) ≤ 9223372036854775807) (hf : ∀ n ∈ f, (n.Name.length : Int) ≤ 9223372036854775807) (hz : (0 + f.length) * 48 ≤ 140737488355328) :
 Q15.f n x y z f fr tt = some true := by
 unfold Q15.f
 rw [Q302, Option.bind_some]
 by_cases R : RightS n x y z
 ·have n0 := R.n0
  have n1 := R.n1
  have ny := R.ny
  obtain ⟨m0, hm0, hh⟩ := Q271 z (by have := R.nz; omega) hs (fun i j h0 h1 h2 => rise_ne R.rz h0 h1 h2)
  obtain ⟨m1, hm1, hx⟩ := l1_run n x y (by have := R.ny; omega) R.ed R.n1
  obtain ⟨b, hb, hfr⟩ := Q220 n x y z hs
  have hbt : b = true := hfr.2 R
  subst hbt
  have hN : Q17.f n x y z = some (some ⟨n, m0, m1⟩) := by unfold Q17.f; rw [hb]; simp [hm0, hm1, jn]
  have T := sys_tb R hx hh
  simp only [hN, Option.bind_some, if_true, Option.isNone_some, Q13, Bool.false_eq_true, if_false]
  by_cases c0 : (x.length : Int) = 0
  ·simp only [decide_eq_true c0, if_true, Q13]
  by_cases c1 : fr < 0
  ·simp only [decide_eq_false c0, decide_eq_true c1, Bool.false_eq_true, if_false, if_true, Q13]
  by_cases c2 : tt < 0
  ·simp only [decide_eq_false c0, decide_eq_false c1, decide_eq_true c2, Bool.false_eq_true, if_false, if_true, Q13]
  by_cases c3 : n ≤ fr
  ·simp only [decide_eq_false c0, decide_eq_false c1, decide_eq_false c2, decide_eq_true c3, Bool.false_eq_true, if_false, if_true, Q13]
  by_cases c4 : n ≤ tt
  ·simp only [decide_eq_false c0, decide_eq_false c1, decide_eq_false c2, decide_eq_false c3, decide_eq_true c4, Bool.false_eq_true, if_false, if_true, Q13]
  simp only [decide_eq_false c0, decide_eq_false c1, decide_eq_false c2, decide_eq_false c3, decide_eq_false c4, Bool.false_eq_true, if_false, Q13]
  rcases m0_run f (by omega) with h0 | ⟨h0, hk⟩
  ·rw [h0, jn_inr]
  rw [h0, Q13, m1_run (holds := m0) hx ⟨by omega, n1⟩ R.nx, Q13]
  dsimp only
  rw [m2_run hh R ⟨by omega, by omega⟩, Q13]
  dsimp only
  have hs2 : ∀ p ∈ z.map (moP hh tt), (p.States.length : Int) ≤ 9223372036854775807 := fun p hp => by
   obtain ⟨p0, _, rfl⟩ := List.mem_map.1 hp
   have := list_len (W4.put (hoW hh p0.Name) tt)
   unfold moP
   dsimp only
   omega
  have hR2 := Q324 R hx hh (fr := fr) (tt := tt) ⟨by omega, by omega⟩ ⟨by omega, by omega⟩
  by_cases hl : (moE hx n fr tt).length ≤ 200
  ·have R2 := hR2.2 hl
   obtain ⟨ho2, ne2, hN2, T2⟩ := new_tab hs2 R2
   simp only [hN2, Option.bind_some, Option.isNone_some, Bool.false_eq_true, if_false, if_true, Option.getD_some]
   rcases eval_run f hf hz with h | ⟨to, f0, f1, ft, bd, h⟩
   ·simp only [h, Option.bind_some, if_true]
    have := in_wd2 (u := 0#64) (v := 0#64) Ws.none Ws.none (fun _ h => h)
    rw [show Wd 0#64 = 0 from rfl] at this
    rw [this]
    rfl
   ·obtain ⟨v, e1, w1⟩ := h _ _ _ _ T
    obtain ⟨u, e2, w2⟩ := h _ _ _ _ T2
    have hle : Le (den (sysC n x y z) f to ((f.length : Int) - 1) fun _ _ => False) (den (sysC n x (moE hx n fr tt) (z.map (moP hh tt))) f to ((f.length : Int) - 1) fun _ _ => False) := by
     refine den_more (C := sysC n x y z) (D := sysC n x (moE hx n fr tt) (z.map (moP hh tt))) rfl (fun a s hs => ?_) (fun a s t he => ?_) hk bd (fun p hp => by cases hp) (fun p hp => by cases hp)
     ·obtain ⟨p, hp, ha, hm⟩ := hs
      have := (R.pr p hp).2.1 s hm
      exact ⟨moP hh tt p, List.mem_map_of_mem hp, ha, (moP_mem hh ⟨by omega, by omega⟩ n1).2 ⟨by omega, by omega, .inl ⟨p, hp, rfl, hm⟩⟩⟩
     ·obtain ⟨e, he, h1, h2, h3⟩ := he
      have hE := R.ed e he
      unfold EdgeIn at hE
      exact ⟨e, (Q219 hx ⟨by omega, n1⟩).2 ⟨⟨hE.1, hE.2.1⟩, ⟨hE.2.2.2.2.1, hE.2.2.2.2.2⟩, ⟨hE.2.2.1, hE.2.2.2.1⟩, .inr ⟨e, he, rfl, rfl, .inl rfl⟩⟩, h1, h2, h3⟩
    simp only [e1, e2, Option.bind_some, if_true, in_wd2 w1 w2 hle]
    rfl
  ·rw [Q245 hs2 (fun r => hl (hR2.1 r))]
   simp [hl]
   omega
 ·rw [Q245 hs R]
  simp [jn]
end Go.Bw
namespace Go.Bw
open Go Go.RowKit Go.ChangeShapes Go.WideShapes Go.Deep
section
variable {P : Program} {α β γ δ ε : Type}
theorem Q304 {H : Type} {enc : TypeId × Value → H} {w : World} {base : Nat} {spare : TypeId → Bool} {held : Bool} {t : TypeId} {f0 f1 f2 f3 f4 : Field} {fuel : Nat} {cs : List Value} {x : DataW H × List MemPlace} (ht : P.underlying t = some (.struct #[f0, f1, f2, f3, f4])) (h : DataW.trod enc P w base spare held fuel t cs = some x) :
 ∃ y0 y1 y2 y3 y4 n, x = (.agg [y0.1, y1.1, y2.1, y3.1, y4.1], y0.2 ++ (y1.2 ++ (y2.2 ++ (y3.2 ++ y4.2)))) ∧ cs.length = P.cellsOf t ∧ DataW.trod enc P w base spare held n f0.type ((cs.drop f0.offset).take (P.cellsOf f0.type)) = some y0 ∧
  DataW.trod enc P w base spare held n f1.type ((cs.drop f1.offset).take (P.cellsOf f1.type)) = some y1 ∧ DataW.trod enc P w base spare held n f2.type ((cs.drop f2.offset).take (P.cellsOf f2.type)) = some y2 ∧
  DataW.trod enc P w base spare held n f3.type ((cs.drop f3.offset).take (P.cellsOf f3.type)) = some y3 ∧ DataW.trod enc P w base spare held n f4.type ((cs.drop f4.offset).take (P.cellsOf f4.type)) = some y4 := by
 obtain ⟨xs, n, _, rfl, hl, hlen, hf⟩ := DataW.trod_struct ht h
 match xs, hlen with
 | [y0, y1, y2, y3, y4], _ => exact ⟨y0, y1, y2, y3, y4, n, by simp, hl, by simpa using hf 0 f0 rfl, by simpa using hf 1 f1 rfl, by simpa using hf 2 f2 rfl, by simpa using hf 3 f3 rfl, by simpa using hf 4 f4 rfl⟩
theorem OpensZ.st5 {T : Rep α} {U : Rep β} {V : Rep γ} {X : Rep δ} {Y : Rep ε} {S Z : α → Prop} {S' Z' : β → Prop} {S'' Z'' : γ → Prop} {S3 Z3 : δ → Prop} {S4 Z4 : ε → Prop} {t : Nat} {f0 f1 f2 f3 f4 : Field} (ht : P.underlying t = some (.struct #[f0, f1, f2, f3, f4])) (o0 : OpensZ P T f0.type S Z) (o1 : OpensZ P U f1.type S' Z') (o2 : OpensZ P V f2.type S'' Z'') (o3 : OpensZ P X f3.type S3 Z3) (o4 : OpensZ P Y f4.type S4 Z4)
 (h0 : f0.offset = 0) (h1 : f1.offset = T.sz) (h2 : f2.offset = T.sz + U.sz) (h3 : f3.offset = T.sz + (U.sz + V.sz)) (h4 : f4.offset = T.sz + (U.sz + (V.sz + X.sz))) (hc : P.cellsOf t = T.sz + (U.sz + (V.sz + (X.sz + Y.sz)))) :
 OpensZ P (T.pair (U.pair (V.pair (X.pair Y)))) t (fun p => S p.1 ∧ S' p.2.1 ∧ S'' p.2.2.1 ∧ S3 p.2.2.2.1 ∧ S4 p.2.2.2.2) (fun p => Z p.1 ∧ Z' p.2.1 ∧ Z'' p.2.2.1 ∧ Z3 p.2.2.2.1 ∧ Z4 p.2.2.2.2) := ⟨hc, fun fuel cs x h => by
 obtain ⟨y0, y1, y2, y3, y4, n, hx, hl, g0, g1, g2, g3, g4⟩ := Q304 ht h
 obtain ⟨a, ka, sa, za⟩ := o0.2 _ _ _ g0
 obtain ⟨b, kb, sb, zb⟩ := o1.2 _ _ _ g1
 obtain ⟨c, kc, sc, zc⟩ := o2.2 _ _ _ g2
 obtain ⟨d, kd, sd, zd⟩ := o3.2 _ _ _ g3
 obtain ⟨e, ke, se, ze⟩ := o4.2 _ _ _ g4
 rw [h0, o0.1, List.drop_zero] at ka
 rw [h1, o1.1] at kb
 rw [h2, o2.1, ← List.drop_drop] at kc
 rw [h3, o3.1, ← List.drop_drop, ← List.drop_drop] at kd
 rw [h4, o4.1, ← List.drop_drop, ← List.drop_drop, ← List.drop_drop] at ke
 have e1 : cs = cs.take T.sz ++ cs.drop T.sz := (List.take_append_drop _ _).symm
 have e2 : cs.drop T.sz = (cs.drop T.sz).take U.sz ++ (cs.drop T.sz).drop U.sz := (List.take_append_drop _ _).symm
 have e3 : (cs.drop T.sz).drop U.sz = ((cs.drop T.sz).drop U.sz).take V.sz ++ ((cs.drop T.sz).drop U.sz).drop V.sz := (List.take_append_drop _ _).symm
 have e4 := cut2 (cs := ((cs.drop T.sz).drop U.sz).drop V.sz) (a := X.sz) (b := Y.sz) (by simp; omega)
 exact ⟨(a, b, c, d, e), ⟨_, _, e1, ka, _, _, e2, kb, _, _, e3, kc, _, _, e4, kd, ke⟩, ⟨sa, sb, sc, sd, se⟩, fun hw => ⟨za fun w hq => (hw w (by rw [(Prod.mk.inj hx).1]; simp [DataW.weights, DataW.weightsEach, ht, hq])), zb fun w hq => (hw w (by rw [(Prod.mk.inj hx).1]; simp [DataW.weights, DataW.weightsEach, ht, hq])), zc fun w hq => (hw w (by rw [(Prod.mk.inj hx).1]; simp [DataW.weights, DataW.weightsEach, ht, hq])), zd fun w hq => (hw w (by rw [(Prod.mk.inj hx).1]; simp [DataW.weights, DataW.weightsEach, ht, hq])), ze fun w hq => (hw w (by rw [(Prod.mk.inj hx).1]; simp [DataW.weights, DataW.weightsEach, ht, hq]))⟩⟩⟩
end
end Go.Bw
namespace Go.Bw
open Go Go.RowKit Go.Proofs Go.ChangeShapes Go.WideShapes
abbrev laid64 : List (String × DataW Unit) := [("math/bits.deBruijn64tab", Go.Proofs.YtfbjkcnefhgodaaGreatDoor.Rows.laid_math_bits_deBruijn64tab)]
theorem Q292 {H : Type} : (Go.Proofs.YtfbjkcnefhgodaaGreatDoor.Rows.laid_math_bits_deBruijn64tab : DataW H) = .agg (Tryz.gtab0.map fun a => .lit (.int .u8 a)) := rfl
theorem Q303 : Tryz.prog.globalNamed "math/bits.deBruijn64tab" = some 0 := by kernel_rfl
theorem Q307 : (Tryz.prog.globals[0]?).map (·.type) = some 148 := by kernel_rfl
theorem Q306 (os : Os) (args : Array Value) : laidMetH Tryz.prog laid64 ((World.doorLaid Tryz.prog 31 os).forCall (fun _ _ => 0) ⟨#[], args, []⟩).memory :=
 laidMetH_of_parts3 (fuel := 8) (laidMet_of_run' 8 (by kernel_rfl) (by kernel_rfl)) (by kernel_rfl) (by kernel_rfl)
theorem laid64_rd {W : World} (h : laidMetH Tryz.prog laid64 W) : RdS (Fl.int .u8).rep (wh W) (some ⟨0, 0, none⟩) Tryz.gtab0 := by
 rw [MakeChecks.laidMetH_plain _ _ _ (by kernel_rfl)] at h
 obtain ⟨ps, ⟨g0, t0, cs0, f0, p0, q0, hg0, ht0, hv0, hd0, _, _⟩, _, _⟩ := h
 obtain rfl := Option.some.inj (Q303.symm.trans hg0)
 obtain rfl := Option.some.inj (Q307.symm.trans ht0)
 obtain ⟨xs, m1, rfl, hx1, hlen, hn3, hel⟩ := DataW.trod_array Tryz.underlying148 hd0
 have hx : xs.map (·.1) = Tryz.gtab0.map fun a => (DataW.lit (.int .u8 a) : DataW Unit) := by
  have h1 := (Prod.mk.inj hx1).1
  have h2 := (Q292 (H := Unit)).symm.trans h1
  exact (DataW.agg.inj h2).symm
 refine Q321 fun i hi => ?_
 have hgl : Tryz.gtab0.length = 64 := rfl
 have hi' : i < 64 := by omega
 have he := hel i hi'
 have hxi : i < xs.length := by omega
 rw [List.getElem?_eq_getElem hxi] at he
 obtain ⟨k, e1, e2, _⟩ := DataW.trod_int Tryz.underlying5 he
 obtain ⟨v, hv⟩ : ∃ v, Tryz.gtab0[i]? = some v := ⟨_, List.getElem?_eq_getElem hi⟩
 have h2 := congrArg (fun l => l[i]?) hx
 simp only [List.getElem?_map, List.getElem?_eq_getElem hxi, hv, Option.map_some, Option.some.injEq] at h2
 rw [e2] at h2
 have hk : k = v := by simpa using h2
 have c5 : Tryz.prog.cellsOf 5 = 1 := by kernel_rfl
 rw [c5, Nat.mul_one] at e1
 rw [World.var?_cell hg0 hv0 i]
 have hc : (cs0.toList.drop i)[0]? = some (.int .u8 k) := by
  cases hd : cs0.toList.drop i with
  | nil => rw [hd] at e1; simp at e1
  | cons a r => rw [hd] at e1; simp at e1; simp [e1]
 rw [List.getElem?_drop, Nat.add_zero] at hc
 rw [List.getD_eq_getElem?_getD, hv, Option.getD_some, ← hk]
 simpa using hc
end Go.Bw
namespace Go.Bw
open Go Go.RowKit Go.Proofs
theorem Q299 {n fr tt : Int} {x : List Bs} {y : List Q3} {z : List Q4} {f : List Q1} (h : (Lit.int .i64 n).wf = true ∧ (x.length ≤ maxLen ∧ ∀ s ∈ x, s.length ≤ maxLen) ∧ (y.length ≤ maxLen ∧ ∀ e ∈ y, ((Lit.int .i64 e.From).wf = true ∧ (Lit.int .i64 e.Action).wf = true ∧ (Lit.int .i64 e.To).wf = true)) ∧
 (z.length ≤ maxLen ∧ ∀ p ∈ z, (p.Name.length ≤ maxLen ∧ (p.States.length ≤ maxLen ∧ ∀ s ∈ p.States, (Lit.int .i64 s).wf = true))))
 (w : True ∧ (x.length * Tryz.prog.bytesOf 9 ≤ reachBytes ∧ ∀ s ∈ x, True) ∧ (y.length * Tryz.prog.bytesOf 48 ≤ reachBytes ∧ ∀ e ∈ y, (True ∧ True ∧ True)) ∧ (z.length * Tryz.prog.bytesOf 41 ≤ reachBytes ∧ ∀ p ∈ z, (True ∧ (p.States.length * Tryz.prog.bytesOf 3 ≤ reachBytes ∧ ∀ s ∈ p.States, True))))
 (h2 : f.length ≤ maxLen ∧ ∀ e ∈ f, ((Lit.int .i64 e.Kind).wf = true ∧ (Lit.int .i64 e.A).wf = true ∧ (Lit.int .i64 e.B).wf = true ∧ e.Name.length ≤ maxLen ∧ (Lit.int .i64 e.At).wf = true))
 (w2 : f.length * Tryz.prog.bytesOf 33 ≤ reachBytes ∧ ∀ e ∈ f, (True ∧ True ∧ True ∧ True ∧ True)) (wfr : (Lit.int .i64 fr).wf = true) (wtt : (Lit.int .i64 tt).wf = true) :
 Q15.f n x y z f fr tt = some true := more_run n x y z f fr tt (fun p hp => by
 have h1 := (h.2.2.2.2 p hp).2.1
 have h2 : maxLen ≤ 9223372036854775807 := by decide
 omega) (fun p hp => by
 have h1 := (h2.2 p hp).2.2.2.1
 have h2 : maxLen ≤ 9223372036854775807 := by decide
 omega) (by
 have b : Tryz.prog.bytesOf 33 = 48 := by kernel_rfl
 have hr : reachBytes = 140737488351232 := rfl
 have := w2.1
 rw [b, hr] at this
 omega)
end Go.Bw
