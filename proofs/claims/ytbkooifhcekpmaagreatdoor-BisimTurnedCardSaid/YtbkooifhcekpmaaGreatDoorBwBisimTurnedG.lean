/- BisimTurned, part 7: walks and plain laws. Conditions: none. -/
import Derived.Test.YtbkooifhcekpmaaGreatDoorRows
import Derived.LaidMore
import Derived.ProofKit
import Derived.OpenShut
import Derived.Stop.Joined
import Derived.Test.YtbkooifhcekpmaaGreatDoorBwBisimTurnedF
set_option linter.unusedVariables false
set_option linter.unusedSimpArgs false
set_option linter.unusedSectionVars false
set_option maxRecDepth 100000
set_option maxHeartbeats 2000000
namespace Go.Bw
open Go Go.RowKit

theorem Q120 {κ ν : Type} [DecidableEq κ] : ∀ (m : List (κ × ν)) (k k' : κ) (v : ν), mget (mset m k v) k' = if k = k' then some v else mget m k'
 | [], k, k', v => by unfold mset mget; split <;> rfl
 | p :: r, k, k', v => by
  unfold mset
  by_cases h : p.1 = k
  ·rw [if_pos h]
   unfold mget
   by_cases h2 : k = k'
   ·simp [h2]
   ·rw [if_neg h2, if_neg h2, if_neg (fun h3 => h2 (h.symm.trans h3))]
  ·rw [if_neg h]
   unfold mget
   by_cases h2 : p.1 = k'
   ·rw [if_pos h2, if_pos h2, if_neg (fun h3 => h (h2.trans h3.symm))]
   ·rw [if_neg h2, if_neg h2, Q120 r k k' v]
theorem Q225 {κ ν : Type} [DecidableEq κ] : ∀ (m : List (κ × ν)) (k : κ) (v : ν), mget m k = none → (mset m k v).length = m.length + 1
 | [], k, v, _ => rfl
 | p :: r, k, v, h => by
  unfold mget at h
  unfold mset
  by_cases h2 : p.1 = k
  ·rw [if_pos h2] at h; cases h
  ·rw [if_neg h2] at h
   rw [if_neg h2, List.length_cons, Q225 r k v h, List.length_cons]
section
variable {κ : Type} [DecidableEq κ] {key : Int → κ}
structure NInv (key : Int → κ) (n i : Int) (l : List Int) (mp : List (κ × Int)) : Prop where
 len : (l.length : Int) = n
 at_ : ∀ j : Int, 0 ≤ j → j < i → mget mp (key j) = some (gt l j)
 old : ∀ k v, mget mp k = some v → 0 ≤ v ∧ v < (mp.length : Int) ∧ ∃ j : Int, 0 ≤ j ∧ j < i ∧ key j = k
 inj : ∀ k k' v, mget mp k = some v → mget mp k' = some v → k = k'
 can : ∀ j : Int, 0 ≤ j → j < i → ∀ v : Int, 0 ≤ v → v < gt l j → ∃ q : Int, 0 ≤ q ∧ q < j ∧ gt l q = v
 all : ∀ v : Int, 0 ≤ v → v < (mp.length : Int) → ∃ q : Int, 0 ≤ q ∧ q < i ∧ gt l q = v
theorem NInv.zero {n : Int} {l : List Int} (h : (l.length : Int) = n) : NInv key n 0 l ([] : List (κ × Int)) :=
 ⟨h, fun j h0 h1 => by omega, fun k v h => by simp [mget] at h, fun k k' v h => by simp [mget] at h, fun j h0 h1 => by omega, fun v h0 h1 => by simp at h1; omega⟩
theorem NInv.hit {n i v : Int} {l : List Int} {mp : List (κ × Int)} (h : NInv key n i l mp) (h0 : 0 ≤ i) (h1 : i < n) (hv : mget mp (key i) = some v) : NInv key n (i + 1) (st l i v) mp := by
 have hl := h.len
 have hlt : i < (l.length : Int) := by omega
 have hg : ∀ j : Int, 0 ≤ j → gt (st l i v) j = if j = i then v else gt l j := fun j hj => gt_st h0 hlt hj
 obtain ⟨v0, v1, jv, jv0, jv1, jv2⟩ := h.old _ _ hv
 have hjv : gt l jv = v := by
  have := h.at_ jv jv0 jv1
  rw [jv2, hv] at this
  exact (Option.some.inj this).symm
 refine ⟨by rw [st_len]; exact hl, fun j j0 j1 => ?_, fun k w hk => ?_, h.inj, fun j j0 j1 w w0 w1 => ?_, fun w w0 w1 => ?_⟩
 ·rw [hg j j0]
  by_cases hj : j = i
  ·rw [if_pos hj, hj]; exact hv
  ·rw [if_neg hj]; exact h.at_ j j0 (by omega)
 ·obtain ⟨a, b, q, q0, q1, q2⟩ := h.old k w hk
  exact ⟨a, b, q, q0, by omega, q2⟩
 ·rw [hg j j0] at w1
  by_cases hj : j = i
  ·rw [if_pos hj, ← hjv] at w1
   obtain ⟨q, q0, q1, q2⟩ := h.can jv jv0 jv1 w w0 w1
   exact ⟨q, q0, by omega, by rw [hg q q0, if_neg (by omega)]; exact q2⟩
  ·rw [if_neg hj] at w1
   obtain ⟨q, q0, q1, q2⟩ := h.can j j0 (by omega) w w0 w1
   exact ⟨q, q0, q1, by rw [hg q q0, if_neg (by omega)]; exact q2⟩
 ·obtain ⟨q, q0, q1, q2⟩ := h.all w w0 w1
  exact ⟨q, q0, by omega, by rw [hg q q0, if_neg (by omega)]; exact q2⟩
theorem NInv.new {n i : Int} {l : List Int} {mp : List (κ × Int)} (h : NInv key n i l mp) (h0 : 0 ≤ i) (h1 : i < n) (hv : mget mp (key i) = none) : NInv key n (i + 1) (st l i (mp.length : Int)) (mset mp (key i) (mp.length : Int)) := by
 have hl := h.len
 have hlt : i < (l.length : Int) := by omega
 have hg : ∀ j : Int, 0 ≤ j → gt (st l i (mp.length : Int)) j = if j = i then (mp.length : Int) else gt l j := fun j hj => gt_st h0 hlt hj
 have hml := Q225 mp (key i) (mp.length : Int) hv
 refine ⟨by rw [st_len]; exact hl, fun j j0 j1 => ?_, fun k w hk => ?_, fun k k' w hk hk' => ?_, fun j j0 j1 w w0 w1 => ?_, fun w w0 w1 => ?_⟩
 ·rw [hg j j0, Q120]
  by_cases hj : j = i
  ·rw [if_pos hj, hj, if_pos rfl]
  ·rw [if_neg hj]
   have := h.at_ j j0 (by omega)
   rw [if_neg (fun e => by rw [e, this] at hv; cases hv)]
   exact this
 ·rw [Q120] at hk
  by_cases e : key i = k
  ·rw [if_pos e] at hk
   obtain rfl := Option.some.inj hk
   exact ⟨by omega, by rw [hml]; omega, i, h0, by omega, e⟩
  ·rw [if_neg e] at hk
   obtain ⟨a, b, q, q0, q1, q2⟩ := h.old k w hk
   exact ⟨a, by rw [hml]; omega, q, q0, by omega, q2⟩
 ·rw [Q120] at hk hk'
  by_cases e : key i = k
  ·by_cases e' : key i = k'
   ·exact e.symm.trans e'
   ·rw [if_pos e] at hk
    rw [if_neg e'] at hk'
    obtain rfl := Option.some.inj hk
    have := (h.old _ _ hk').2.1
    omega
  ·rw [if_neg e] at hk
   by_cases e' : key i = k'
   ·rw [if_pos e'] at hk'
    obtain rfl := Option.some.inj hk'
    have := (h.old _ _ hk).2.1
    omega
   ·rw [if_neg e'] at hk'
    exact h.inj k k' w hk hk'
 ·rw [hg j j0] at w1
  by_cases hj : j = i
  ·rw [if_pos hj] at w1
   obtain ⟨q, q0, q1, q2⟩ := h.all w w0 w1
   exact ⟨q, q0, by omega, by rw [hg q q0, if_neg (by omega)]; exact q2⟩
  ·rw [if_neg hj] at w1
   obtain ⟨q, q0, q1, q2⟩ := h.can j j0 (by omega) w w0 w1
   exact ⟨q, q0, q1, by rw [hg q q0, if_neg (by omega)]; exact q2⟩
 ·rw [hml] at w1
  by_cases hw : w = (mp.length : Int)
  ·exact ⟨i, h0, by omega, by rw [hg i h0, if_pos rfl, hw]⟩
  ·obtain ⟨q, q0, q1, q2⟩ := h.all w w0 (by omega)
   exact ⟨q, q0, by omega, by rw [hg q q0, if_neg (by omega)]; exact q2⟩
structure NumBy (key : Int → κ) (n : Int) (l : List Int) : Prop where
 len : (l.length : Int) = n
 canon : Canon l
 iff : ∀ i j : Int, 0 ≤ i → i < n → 0 ≤ j → j < n → (gt l i = gt l j ↔ key i = key j)
theorem NInv.fin {n : Int} {l : List Int} {mp : List (κ × Int)} (h : NInv key n n l mp) : NumBy key n l := by
 refine ⟨h.len, fun i i0 i1 => ?_, fun i j i0 i1 j0 j1 => ⟨fun e => ?_, fun e => ?_⟩⟩
 ·rw [h.len] at i1
  exact ⟨(h.old _ _ (h.at_ i i0 i1)).1, h.can i i0 i1⟩
 ·exact h.inj _ _ _ (h.at_ i i0 i1) (by rw [e]; exact h.at_ j j0 j1)
 ·have a := h.at_ i i0 i1
  have b := h.at_ j j0 j1
  rw [e, b] at a
  exact (Option.some.inj a).symm
end
end Go.Bw
namespace Go.Bw
open Go Go.RowKit

def upd (f : Int → W4) (i : Int) (u : W4) : Int → W4 := fun j => if j = i then u else f j
def T32 (f : Int → W4) : Int × Int × Int × Int × Int × Int × Int × Int × Int × Int × Int × Int × Int × Int × Int × Int × Int × Int × Int × Int × Int × Int × Int × Int × Int × Int × Int × Int × Int × Int × Int × Int := (Wd (f 0).a, Wd (f 0).b, Wd (f 0).c, Wd (f 0).d, Wd (f 1).a, Wd (f 1).b, Wd (f 1).c, Wd (f 1).d, Wd (f 2).a, Wd (f 2).b, Wd (f 2).c, Wd (f 2).d, Wd (f 3).a, Wd (f 3).b, Wd (f 3).c, Wd (f 3).d, Wd (f 4).a, Wd (f 4).b, Wd (f 4).c, Wd (f 4).d, Wd (f 5).a, Wd (f 5).b, Wd (f 5).c, Wd (f 5).d, Wd (f 6).a, Wd (f 6).b, Wd (f 6).c, Wd (f 6).d, Wd (f 7).a, Wd (f 7).b, Wd (f 7).c, Wd (f 7).d)
def T33 (f : Int → W4) (p : Int) : Int × Int × Int × Int × Int × Int × Int × Int × Int × Int × Int × Int × Int × Int × Int × Int × Int × Int × Int × Int × Int × Int × Int × Int × Int × Int × Int × Int × Int × Int × Int × Int × Int := (Wd (f 0).a, Wd (f 0).b, Wd (f 0).c, Wd (f 0).d, Wd (f 1).a, Wd (f 1).b, Wd (f 1).c, Wd (f 1).d, Wd (f 2).a, Wd (f 2).b, Wd (f 2).c, Wd (f 2).d, Wd (f 3).a, Wd (f 3).b, Wd (f 3).c, Wd (f 3).d, Wd (f 4).a, Wd (f 4).b, Wd (f 4).c, Wd (f 4).d, Wd (f 5).a, Wd (f 5).b, Wd (f 5).c, Wd (f 5).d, Wd (f 6).a, Wd (f 6).b, Wd (f 6).c, Wd (f 6).d, Wd (f 7).a, Wd (f 7).b, Wd (f 7).c, Wd (f 7).d, p)
def O33 (o : Option Q2) (f : Int → W4) : Option Q2 × Int × Int × Int × Int × Int × Int × Int × Int × Int × Int × Int × Int × Int × Int × Int × Int × Int × Int × Int × Int × Int × Int × Int × Int × Int × Int × Int × Int × Int × Int × Int × Int := (o, Wd (f 0).a, Wd (f 0).b, Wd (f 0).c, Wd (f 0).d, Wd (f 1).a, Wd (f 1).b, Wd (f 1).c, Wd (f 1).d, Wd (f 2).a, Wd (f 2).b, Wd (f 2).c, Wd (f 2).d, Wd (f 3).a, Wd (f 3).b, Wd (f 3).c, Wd (f 3).d, Wd (f 4).a, Wd (f 4).b, Wd (f 4).c, Wd (f 4).d, Wd (f 5).a, Wd (f 5).b, Wd (f 5).c, Wd (f 5).d, Wd (f 6).a, Wd (f 6).b, Wd (f 6).c, Wd (f 6).d, Wd (f 7).a, Wd (f 7).b, Wd (f 7).c, Wd (f 7).d)
def O34 (o : Option Q2) (f : Int → W4) (p : Int) : Option Q2 × Int × Int × Int × Int × Int × Int × Int × Int × Int × Int × Int × Int × Int × Int × Int × Int × Int × Int × Int × Int × Int × Int × Int × Int × Int × Int × Int × Int × Int × Int × Int × Int × Int := (o, Wd (f 0).a, Wd (f 0).b, Wd (f 0).c, Wd (f 0).d, Wd (f 1).a, Wd (f 1).b, Wd (f 1).c, Wd (f 1).d, Wd (f 2).a, Wd (f 2).b, Wd (f 2).c, Wd (f 2).d, Wd (f 3).a, Wd (f 3).b, Wd (f 3).c, Wd (f 3).d, Wd (f 4).a, Wd (f 4).b, Wd (f 4).c, Wd (f 4).d, Wd (f 5).a, Wd (f 5).b, Wd (f 5).c, Wd (f 5).d, Wd (f 6).a, Wd (f 6).b, Wd (f 6).c, Wd (f 6).d, Wd (f 7).a, Wd (f 7).b, Wd (f 7).c, Wd (f 7).d, p)
theorem Q113 {σ ρ : Type} {body : σ → Option (σ ⊕ ρ)} {s s' : σ} (h : body s = some (.inl s')) : iter body s = iter body s' := by rw [Q84, h]; rfl
theorem Q112 {σ ρ : Type} {body : σ → Option (σ ⊕ ρ)} {s : σ} {r : ρ} (h : body s = some (.inr r)) : iter body s = some r := by rw [Q84, h]; rfl
def putc (u : W4) (c : Int) : W4 := if 0 ≤ c ∧ c < 256 then u.put c else u
theorem Q116 (u : W4) (c : Int) : Q21.f (Wd u.a) (Wd u.b) (Wd u.c) (Wd u.d) c = some (putc u c).t := Q150
theorem sg_l1b (l : List Int) {i : Int} (h0 : 0 ≤ i) (h1 : i < 8) (L : List Int) (f : Int → W4) {p : Int} (p0 : 0 ≤ p) (p1 : p < (L.length : Int)) (hL : (L.length : Int) ≤ 256) (g0 : 0 ≤ gt L p) (g1 : gt L p < (l.length : Int)) :
 Q17.l1b l i L (Wd (f 0).a) (Wd (f 0).b) (Wd (f 0).c) (Wd (f 0).d) (Wd (f 1).a) (Wd (f 1).b) (Wd (f 1).c) (Wd (f 1).d) (Wd (f 2).a) (Wd (f 2).b) (Wd (f 2).c) (Wd (f 2).d) (Wd (f 3).a) (Wd (f 3).b) (Wd (f 3).c) (Wd (f 3).d) (Wd (f 4).a) (Wd (f 4).b) (Wd (f 4).c) (Wd (f 4).d) (Wd (f 5).a) (Wd (f 5).b) (Wd (f 5).c) (Wd (f 5).d) (Wd (f 6).a) (Wd (f 6).b) (Wd (f 6).c) (Wd (f 6).d) (Wd (f 7).a) (Wd (f 7).b) (Wd (f 7).c) (Wd (f 7).d) p = some (.inl (T33 (upd f i (putc (f i) (gt l (gt L p)))) (p + 1))) := by
 have hw : IntKind.i64.wrap (p + 1) = p + 1 := wrap64 (by omega) (by omega)
 unfold Q17.l1b
 rw [if_pos p1, if_pos ⟨p0, p1⟩, if_pos ⟨h0, h1⟩]
 have hi : i = 0 ∨ i = 1 ∨ i = 2 ∨ i = 3 ∨ i = 4 ∨ i = 5 ∨ i = 6 ∨ i = 7 := by omega
 rcases hi with rfl | rfl | rfl | rfl | rfl | rfl | rfl | rfl
 ·rw [if_pos (rfl : (0 : Int) = 0)]; rw [if_pos ⟨g0, g1⟩, Q116, Option.bind_some, Q43, hw]; rfl
 ·rw [if_neg (show ¬ ((1 : Int) = 0) by decide)]; rw [if_pos (rfl : (1 : Int) = 1)]; rw [if_pos ⟨g0, g1⟩, Q116, Option.bind_some, Q43, hw]; rfl
 ·rw [if_neg (show ¬ ((2 : Int) = 0) by decide)]; rw [if_neg (show ¬ ((2 : Int) = 1) by decide)]; rw [if_pos (rfl : (2 : Int) = 2)]; rw [if_pos ⟨g0, g1⟩, Q116, Option.bind_some, Q43, hw]; rfl
 ·rw [if_neg (show ¬ ((3 : Int) = 0) by decide)]; rw [if_neg (show ¬ ((3 : Int) = 1) by decide)]; rw [if_neg (show ¬ ((3 : Int) = 2) by decide)]; rw [if_pos (rfl : (3 : Int) = 3)]; rw [if_pos ⟨g0, g1⟩, Q116, Option.bind_some, Q43, hw]; rfl
 ·rw [if_neg (show ¬ ((4 : Int) = 0) by decide)]; rw [if_neg (show ¬ ((4 : Int) = 1) by decide)]; rw [if_neg (show ¬ ((4 : Int) = 2) by decide)]; rw [if_neg (show ¬ ((4 : Int) = 3) by decide)]; rw [if_pos (rfl : (4 : Int) = 4)]; rw [if_pos ⟨g0, g1⟩, Q116, Option.bind_some, Q43, hw]; rfl
 ·rw [if_neg (show ¬ ((5 : Int) = 0) by decide)]; rw [if_neg (show ¬ ((5 : Int) = 1) by decide)]; rw [if_neg (show ¬ ((5 : Int) = 2) by decide)]; rw [if_neg (show ¬ ((5 : Int) = 3) by decide)]; rw [if_neg (show ¬ ((5 : Int) = 4) by decide)]; rw [if_pos (rfl : (5 : Int) = 5)]; rw [if_pos ⟨g0, g1⟩, Q116, Option.bind_some, Q43, hw]; rfl
 ·rw [if_neg (show ¬ ((6 : Int) = 0) by decide)]; rw [if_neg (show ¬ ((6 : Int) = 1) by decide)]; rw [if_neg (show ¬ ((6 : Int) = 2) by decide)]; rw [if_neg (show ¬ ((6 : Int) = 3) by decide)]; rw [if_neg (show ¬ ((6 : Int) = 4) by decide)]; rw [if_neg (show ¬ ((6 : Int) = 5) by decide)]; rw [if_pos (rfl : (6 : Int) = 6)]; rw [if_pos ⟨g0, g1⟩, Q116, Option.bind_some, Q43, hw]; rfl
 ·rw [if_neg (show ¬ ((7 : Int) = 0) by decide)]; rw [if_neg (show ¬ ((7 : Int) = 1) by decide)]; rw [if_neg (show ¬ ((7 : Int) = 2) by decide)]; rw [if_neg (show ¬ ((7 : Int) = 3) by decide)]; rw [if_neg (show ¬ ((7 : Int) = 4) by decide)]; rw [if_neg (show ¬ ((7 : Int) = 5) by decide)]; rw [if_neg (show ¬ ((7 : Int) = 6) by decide)]; rw [if_pos ⟨g0, g1⟩, Q116, Option.bind_some, Q43, hw]; rfl
theorem sg_l1 (l : List Int) {i : Int} (h0 : 0 ≤ i) (h1 : i < 8) (L : List Int) (hL : (L.length : Int) ≤ 256) (hin : ∀ t ∈ L, 0 ≤ t ∧ t < (l.length : Int)) (f : Int → W4) :
 Q17.l1 l i L (Wd (f 0).a) (Wd (f 0).b) (Wd (f 0).c) (Wd (f 0).d) (Wd (f 1).a) (Wd (f 1).b) (Wd (f 1).c) (Wd (f 1).d) (Wd (f 2).a) (Wd (f 2).b) (Wd (f 2).c) (Wd (f 2).d) (Wd (f 3).a) (Wd (f 3).b) (Wd (f 3).c) (Wd (f 3).d) (Wd (f 4).a) (Wd (f 4).b) (Wd (f 4).c) (Wd (f 4).d) (Wd (f 5).a) (Wd (f 5).b) (Wd (f 5).c) (Wd (f 5).d) (Wd (f 6).a) (Wd (f 6).b) (Wd (f 6).c) (Wd (f 6).d) (Wd (f 7).a) (Wd (f 7).b) (Wd (f 7).c) (Wd (f 7).d) 0 = some (.inl (T32 (upd f i (L.foldl (fun u t => putc u (gt l t)) (f i))))) := by
 have upd2 : ∀ (u v : W4), upd (upd f i u) i v = upd f i v := fun u v => by funext j; unfold upd; split <;> rfl
 have updi : ∀ (u : W4), upd f i u i = u := fun u => by unfold upd; rw [if_pos rfl]
 have upds : upd f i (f i) = f := by funext j; unfold upd; split <;> simp_all
 have key : ∀ (q : Nat) (p : Int), 0 ≤ p → (L.length : Int) - p = q → ∀ u : W4, iter (fun t_ : Int × Int × Int × Int × Int × Int × Int × Int × Int × Int × Int × Int × Int × Int × Int × Int × Int × Int × Int × Int × Int × Int × Int × Int × Int × Int × Int × Int × Int × Int × Int × Int × Int => Q17.l1b l i L t_.1 t_.2.1 t_.2.2.1 t_.2.2.2.1 t_.2.2.2.2.1 t_.2.2.2.2.2.1 t_.2.2.2.2.2.2.1 t_.2.2.2.2.2.2.2.1 (d8 t_).1 (d8 t_).2.1 (d8 t_).2.2.1 (d8 t_).2.2.2.1 (d8 t_).2.2.2.2.1 (d8 t_).2.2.2.2.2.1 (d8 t_).2.2.2.2.2.2.1 (d8 t_).2.2.2.2.2.2.2.1 (d8 (d8 t_)).1 (d8 (d8 t_)).2.1 (d8 (d8 t_)).2.2.1 (d8 (d8 t_)).2.2.2.1 (d8 (d8 t_)).2.2.2.2.1 (d8 (d8 t_)).2.2.2.2.2.1 (d8 (d8 t_)).2.2.2.2.2.2.1 (d8 (d8 t_)).2.2.2.2.2.2.2.1 (d8 (d8 (d8 t_))).1 (d8 (d8 (d8 t_))).2.1 (d8 (d8 (d8 t_))).2.2.1 (d8 (d8 (d8 t_))).2.2.2.1 (d8 (d8 (d8 t_))).2.2.2.2.1 (d8 (d8 (d8 t_))).2.2.2.2.2.1 (d8 (d8 (d8 t_))).2.2.2.2.2.2.1 (d8 (d8 (d8 t_))).2.2.2.2.2.2.2.1 (d8 (d8 (d8 (d8 t_))))) (T33 (upd f i u) p) = some (.inl (T32 (upd f i ((L.drop p.toNat).foldl (fun u t => putc u (gt l t)) u)))) := fun q => by
  induction q with
  | zero =>
   intro p p0 pq u
   have hn : ¬ p < (L.length : Int) := by omega
   have hb : Q17.l1b l i L (Wd (upd f i u 0).a) (Wd (upd f i u 0).b) (Wd (upd f i u 0).c) (Wd (upd f i u 0).d) (Wd (upd f i u 1).a) (Wd (upd f i u 1).b) (Wd (upd f i u 1).c) (Wd (upd f i u 1).d) (Wd (upd f i u 2).a) (Wd (upd f i u 2).b) (Wd (upd f i u 2).c) (Wd (upd f i u 2).d) (Wd (upd f i u 3).a) (Wd (upd f i u 3).b) (Wd (upd f i u 3).c) (Wd (upd f i u 3).d) (Wd (upd f i u 4).a) (Wd (upd f i u 4).b) (Wd (upd f i u 4).c) (Wd (upd f i u 4).d) (Wd (upd f i u 5).a) (Wd (upd f i u 5).b) (Wd (upd f i u 5).c) (Wd (upd f i u 5).d) (Wd (upd f i u 6).a) (Wd (upd f i u 6).b) (Wd (upd f i u 6).c) (Wd (upd f i u 6).d) (Wd (upd f i u 7).a) (Wd (upd f i u 7).b) (Wd (upd f i u 7).c) (Wd (upd f i u 7).d) p = some (.inr (.inl (T32 (upd f i u)))) := by
    unfold Q17.l1b
    rw [if_neg hn]
    rfl
   rw [List.drop_of_length_le (by omega)]
   exact Q112 (body := fun t_ : Int × Int × Int × Int × Int × Int × Int × Int × Int × Int × Int × Int × Int × Int × Int × Int × Int × Int × Int × Int × Int × Int × Int × Int × Int × Int × Int × Int × Int × Int × Int × Int × Int => Q17.l1b l i L t_.1 t_.2.1 t_.2.2.1 t_.2.2.2.1 t_.2.2.2.2.1 t_.2.2.2.2.2.1 t_.2.2.2.2.2.2.1 t_.2.2.2.2.2.2.2.1 (d8 t_).1 (d8 t_).2.1 (d8 t_).2.2.1 (d8 t_).2.2.2.1 (d8 t_).2.2.2.2.1 (d8 t_).2.2.2.2.2.1 (d8 t_).2.2.2.2.2.2.1 (d8 t_).2.2.2.2.2.2.2.1 (d8 (d8 t_)).1 (d8 (d8 t_)).2.1 (d8 (d8 t_)).2.2.1 (d8 (d8 t_)).2.2.2.1 (d8 (d8 t_)).2.2.2.2.1 (d8 (d8 t_)).2.2.2.2.2.1 (d8 (d8 t_)).2.2.2.2.2.2.1 (d8 (d8 t_)).2.2.2.2.2.2.2.1 (d8 (d8 (d8 t_))).1 (d8 (d8 (d8 t_))).2.1 (d8 (d8 (d8 t_))).2.2.1 (d8 (d8 (d8 t_))).2.2.2.1 (d8 (d8 (d8 t_))).2.2.2.2.1 (d8 (d8 (d8 t_))).2.2.2.2.2.1 (d8 (d8 (d8 t_))).2.2.2.2.2.2.1 (d8 (d8 (d8 t_))).2.2.2.2.2.2.2.1 (d8 (d8 (d8 (d8 t_))))) hb
  | succ q ih =>
   intro p p0 pq u
   have hp : p < (L.length : Int) := by omega
   have hm := hin _ (Q99 p0 hp)
   have hb := sg_l1b l h0 h1 L (upd f i u) p0 hp hL hm.1 hm.2
   rw [updi, upd2] at hb
   rw [Q113 (body := fun t_ : Int × Int × Int × Int × Int × Int × Int × Int × Int × Int × Int × Int × Int × Int × Int × Int × Int × Int × Int × Int × Int × Int × Int × Int × Int × Int × Int × Int × Int × Int × Int × Int × Int => Q17.l1b l i L t_.1 t_.2.1 t_.2.2.1 t_.2.2.2.1 t_.2.2.2.2.1 t_.2.2.2.2.2.1 t_.2.2.2.2.2.2.1 t_.2.2.2.2.2.2.2.1 (d8 t_).1 (d8 t_).2.1 (d8 t_).2.2.1 (d8 t_).2.2.2.1 (d8 t_).2.2.2.2.1 (d8 t_).2.2.2.2.2.1 (d8 t_).2.2.2.2.2.2.1 (d8 t_).2.2.2.2.2.2.2.1 (d8 (d8 t_)).1 (d8 (d8 t_)).2.1 (d8 (d8 t_)).2.2.1 (d8 (d8 t_)).2.2.2.1 (d8 (d8 t_)).2.2.2.2.1 (d8 (d8 t_)).2.2.2.2.2.1 (d8 (d8 t_)).2.2.2.2.2.2.1 (d8 (d8 t_)).2.2.2.2.2.2.2.1 (d8 (d8 (d8 t_))).1 (d8 (d8 (d8 t_))).2.1 (d8 (d8 (d8 t_))).2.2.1 (d8 (d8 (d8 t_))).2.2.2.1 (d8 (d8 (d8 t_))).2.2.2.2.1 (d8 (d8 (d8 t_))).2.2.2.2.2.1 (d8 (d8 (d8 t_))).2.2.2.2.2.2.1 (d8 (d8 (d8 t_))).2.2.2.2.2.2.2.1 (d8 (d8 (d8 (d8 t_))))) (s := T33 (upd f i u) p) (s' := T33 (upd f i (putc u (gt l (gt L p)))) (p + 1)) hb]
   have := ih (p + 1) (by omega) (by omega) (putc u (gt l (gt L p)))
   have hd : L.drop p.toNat = gt L p :: L.drop (p + 1).toNat := by
    rw [show (p + 1).toNat = p.toNat + 1 from by omega]
    have h2 := List.drop_eq_getElem_cons (l := L) (i := p.toNat) (by omega)
    rw [h2]
    congr 1
    have h3 := Q100 p0 hp
    rw [List.getElem?_eq_getElem (by omega)] at h3
    exact Option.some.inj h3
   rw [hd, List.foldl_cons]
   exact this
 have := key L.length 0 (by decide) (by omega) (f i)
 rw [upds] at this
 exact this
end Go.Bw
namespace Go.Bw
open Go Go.RowKit

section
variable {n : Int} {x : List Bs} {y : List Q0} {next : List (Q9 × Q5)} {holds : List (Bs × Q5)}
noncomputable def nxW (hx : Nx x y next) (s : Int) (a : Bs) : W4 := (hx ⟨s, a⟩).choose
theorem Q128 (hx : Nx x y next) (s : Int) (a : Bs) : (nxW hx s a).Rep (Hit x y ⟨s, a⟩) := (hx ⟨s, a⟩).choose_spec.2
theorem nxW_run (hx : Nx x y next) (n : Int) (holds : List (Bs × Q5)) (s : Int) (a : Bs) : Q65.f n holds next s a = some (nxW hx s a).t := by
 have h := (hx ⟨s, a⟩).choose_spec.1
 unfold Q65.f
 rw [h]
 rfl
theorem nxW_in (hx : Nx x y next) (hn : n ≤ 24) (he : ∀ e ∈ y, EdgeIn n x.length e) {s : Int} {a : Bs} {t : Int} (h : t ∈ (nxW hx s a).list) : 0 ≤ t ∧ t < n := by
 obtain ⟨_, _, e, h1, _, h2, _⟩ := (Q167 (Q128 hx s a)).1 h
 have h2' : e.To = t := h2
 have := (he e h1).2.2
 omega
noncomputable def sgF (hx : Nx x y next) (l : List Int) (s m : Int) : Int → W4 := fun j => if 0 ≤ j ∧ j < m then (nxW hx s (gt x j)).list.foldl (fun u t => putc u (gt l t)) W4.z else W4.z
theorem sgF_zero (hx : Nx x y next) (l : List Int) (s : Int) : sgF hx l s 0 = fun _ => W4.z := by funext j; unfold sgF; rw [if_neg (by omega)]
theorem sgF_step (hx : Nx x y next) (l : List Int) (s : Int) {i : Int} (h0 : 0 ≤ i) : upd (sgF hx l s i) i ((nxW hx s (gt x i)).list.foldl (fun u t => putc u (gt l t)) (sgF hx l s i i)) = sgF hx l s (i + 1) := by
 have hz : sgF hx l s i i = W4.z := by unfold sgF; rw [if_neg (by omega)]
 rw [hz]
 funext j
 unfold upd sgF
 by_cases hj : j = i
 ·subst hj
  rw [if_pos rfl, if_pos (by omega)]
 ·rw [if_neg hj]
  by_cases h1 : 0 ≤ j ∧ j < i
  ·rw [if_pos h1, if_pos (by omega)]
  ·rw [if_neg h1, if_neg (by omega)]
theorem sg_l0 (hx : Nx x y next) (hn : n ≤ 24) (hl8 : x.length ≤ 8) (he : ∀ e ∈ y, EdgeIn n x.length e) (l : List Int) (hl : (l.length : Int) = n) (s : Int) : ∀ (q : Nat) (i : Int), 0 ≤ i → (x.length : Int) - i = q →
 iter (fun t_ : Option Q2 × Int × Int × Int × Int × Int × Int × Int × Int × Int × Int × Int × Int × Int × Int × Int × Int × Int × Int × Int × Int × Int × Int × Int × Int × Int × Int × Int × Int × Int × Int × Int × Int × Int => Q17.l0b s l x t_.1 t_.2.1 t_.2.2.1 t_.2.2.2.1 t_.2.2.2.2.1 t_.2.2.2.2.2.1 t_.2.2.2.2.2.2.1 t_.2.2.2.2.2.2.2.1 (d8 t_).1 (d8 t_).2.1 (d8 t_).2.2.1 (d8 t_).2.2.2.1 (d8 t_).2.2.2.2.1 (d8 t_).2.2.2.2.2.1 (d8 t_).2.2.2.2.2.2.1 (d8 t_).2.2.2.2.2.2.2.1 (d8 (d8 t_)).1 (d8 (d8 t_)).2.1 (d8 (d8 t_)).2.2.1 (d8 (d8 t_)).2.2.2.1 (d8 (d8 t_)).2.2.2.2.1 (d8 (d8 t_)).2.2.2.2.2.1 (d8 (d8 t_)).2.2.2.2.2.2.1 (d8 (d8 t_)).2.2.2.2.2.2.2.1 (d8 (d8 (d8 t_))).1 (d8 (d8 (d8 t_))).2.1 (d8 (d8 (d8 t_))).2.2.1 (d8 (d8 (d8 t_))).2.2.2.1 (d8 (d8 (d8 t_))).2.2.2.2.1 (d8 (d8 (d8 t_))).2.2.2.2.2.1 (d8 (d8 (d8 t_))).2.2.2.2.2.2.1 (d8 (d8 (d8 t_))).2.2.2.2.2.2.2.1 (d8 (d8 (d8 (d8 t_)))).1 (d8 (d8 (d8 (d8 t_)))).2) (O34 (some ⟨n, holds, next⟩) (sgF hx l s i) i) = some (.inl (O33 (some ⟨n, holds, next⟩) (sgF hx l s x.length))) := fun q => by
 induction q with
 | zero =>
  intro i i0 iq
  have hb : Q17.l0b s l x (some ⟨n, holds, next⟩) (Wd (sgF hx l s i 0).a) (Wd (sgF hx l s i 0).b) (Wd (sgF hx l s i 0).c) (Wd (sgF hx l s i 0).d) (Wd (sgF hx l s i 1).a) (Wd (sgF hx l s i 1).b) (Wd (sgF hx l s i 1).c) (Wd (sgF hx l s i 1).d) (Wd (sgF hx l s i 2).a) (Wd (sgF hx l s i 2).b) (Wd (sgF hx l s i 2).c) (Wd (sgF hx l s i 2).d) (Wd (sgF hx l s i 3).a) (Wd (sgF hx l s i 3).b) (Wd (sgF hx l s i 3).c) (Wd (sgF hx l s i 3).d) (Wd (sgF hx l s i 4).a) (Wd (sgF hx l s i 4).b) (Wd (sgF hx l s i 4).c) (Wd (sgF hx l s i 4).d) (Wd (sgF hx l s i 5).a) (Wd (sgF hx l s i 5).b) (Wd (sgF hx l s i 5).c) (Wd (sgF hx l s i 5).d) (Wd (sgF hx l s i 6).a) (Wd (sgF hx l s i 6).b) (Wd (sgF hx l s i 6).c) (Wd (sgF hx l s i 6).d) (Wd (sgF hx l s i 7).a) (Wd (sgF hx l s i 7).b) (Wd (sgF hx l s i 7).c) (Wd (sgF hx l s i 7).d) i = some (.inr (.inl (O33 (some ⟨n, holds, next⟩) (sgF hx l s i)))) := by
   unfold Q17.l0b
   rw [if_neg (by omega)]
   rfl
  have hq := Q112 (body := fun t_ : Option Q2 × Int × Int × Int × Int × Int × Int × Int × Int × Int × Int × Int × Int × Int × Int × Int × Int × Int × Int × Int × Int × Int × Int × Int × Int × Int × Int × Int × Int × Int × Int × Int × Int × Int => Q17.l0b s l x t_.1 t_.2.1 t_.2.2.1 t_.2.2.2.1 t_.2.2.2.2.1 t_.2.2.2.2.2.1 t_.2.2.2.2.2.2.1 t_.2.2.2.2.2.2.2.1 (d8 t_).1 (d8 t_).2.1 (d8 t_).2.2.1 (d8 t_).2.2.2.1 (d8 t_).2.2.2.2.1 (d8 t_).2.2.2.2.2.1 (d8 t_).2.2.2.2.2.2.1 (d8 t_).2.2.2.2.2.2.2.1 (d8 (d8 t_)).1 (d8 (d8 t_)).2.1 (d8 (d8 t_)).2.2.1 (d8 (d8 t_)).2.2.2.1 (d8 (d8 t_)).2.2.2.2.1 (d8 (d8 t_)).2.2.2.2.2.1 (d8 (d8 t_)).2.2.2.2.2.2.1 (d8 (d8 t_)).2.2.2.2.2.2.2.1 (d8 (d8 (d8 t_))).1 (d8 (d8 (d8 t_))).2.1 (d8 (d8 (d8 t_))).2.2.1 (d8 (d8 (d8 t_))).2.2.2.1 (d8 (d8 (d8 t_))).2.2.2.2.1 (d8 (d8 (d8 t_))).2.2.2.2.2.1 (d8 (d8 (d8 t_))).2.2.2.2.2.2.1 (d8 (d8 (d8 t_))).2.2.2.2.2.2.2.1 (d8 (d8 (d8 (d8 t_)))).1 (d8 (d8 (d8 (d8 t_)))).2) (s := O34 (some ⟨n, holds, next⟩) (sgF hx l s i) i) hb
  rw [hq, show i = (x.length : Int) from by omega]
 | succ q ih =>
  intro i i0 iq
  have hi : i < (x.length : Int) := by omega
  have h1 := sg_l1 l i0 (by omega) (nxW hx s (gt x i)).list (by have := list_len (nxW hx s (gt x i)); omega) (fun t ht => by have := nxW_in hx hn he ht; omega) (sgF hx l s i)
  rw [sgF_step hx l s i0] at h1
  have hb : Q17.l0b s l x (some ⟨n, holds, next⟩) (Wd (sgF hx l s i 0).a) (Wd (sgF hx l s i 0).b) (Wd (sgF hx l s i 0).c) (Wd (sgF hx l s i 0).d) (Wd (sgF hx l s i 1).a) (Wd (sgF hx l s i 1).b) (Wd (sgF hx l s i 1).c) (Wd (sgF hx l s i 1).d) (Wd (sgF hx l s i 2).a) (Wd (sgF hx l s i 2).b) (Wd (sgF hx l s i 2).c) (Wd (sgF hx l s i 2).d) (Wd (sgF hx l s i 3).a) (Wd (sgF hx l s i 3).b) (Wd (sgF hx l s i 3).c) (Wd (sgF hx l s i 3).d) (Wd (sgF hx l s i 4).a) (Wd (sgF hx l s i 4).b) (Wd (sgF hx l s i 4).c) (Wd (sgF hx l s i 4).d) (Wd (sgF hx l s i 5).a) (Wd (sgF hx l s i 5).b) (Wd (sgF hx l s i 5).c) (Wd (sgF hx l s i 5).d) (Wd (sgF hx l s i 6).a) (Wd (sgF hx l s i 6).b) (Wd (sgF hx l s i 6).c) (Wd (sgF hx l s i 6).d) (Wd (sgF hx l s i 7).a) (Wd (sgF hx l s i 7).b) (Wd (sgF hx l s i 7).c) (Wd (sgF hx l s i 7).d) i = some (.inl (O34 (some ⟨n, holds, next⟩) (sgF hx l s (i + 1)) (i + 1))) := by
   unfold Q17.l0b
   rw [if_pos hi, if_pos ⟨i0, hi⟩]
   simp only [Option.isNone_some, if_true, Option.getD_some, nxW_run hx, Option.bind_some, W4.t, list_run, h1, Q43]
   rw [wrap64 (x := i + 1) (by omega) (by omega)]
   rfl
  rw [Q113 (body := fun t_ : Option Q2 × Int × Int × Int × Int × Int × Int × Int × Int × Int × Int × Int × Int × Int × Int × Int × Int × Int × Int × Int × Int × Int × Int × Int × Int × Int × Int × Int × Int × Int × Int × Int × Int × Int => Q17.l0b s l x t_.1 t_.2.1 t_.2.2.1 t_.2.2.2.1 t_.2.2.2.2.1 t_.2.2.2.2.2.1 t_.2.2.2.2.2.2.1 t_.2.2.2.2.2.2.2.1 (d8 t_).1 (d8 t_).2.1 (d8 t_).2.2.1 (d8 t_).2.2.2.1 (d8 t_).2.2.2.2.1 (d8 t_).2.2.2.2.2.1 (d8 t_).2.2.2.2.2.2.1 (d8 t_).2.2.2.2.2.2.2.1 (d8 (d8 t_)).1 (d8 (d8 t_)).2.1 (d8 (d8 t_)).2.2.1 (d8 (d8 t_)).2.2.2.1 (d8 (d8 t_)).2.2.2.2.1 (d8 (d8 t_)).2.2.2.2.2.1 (d8 (d8 t_)).2.2.2.2.2.2.1 (d8 (d8 t_)).2.2.2.2.2.2.2.1 (d8 (d8 (d8 t_))).1 (d8 (d8 (d8 t_))).2.1 (d8 (d8 (d8 t_))).2.2.1 (d8 (d8 (d8 t_))).2.2.2.1 (d8 (d8 (d8 t_))).2.2.2.2.1 (d8 (d8 (d8 t_))).2.2.2.2.2.1 (d8 (d8 (d8 t_))).2.2.2.2.2.2.1 (d8 (d8 (d8 t_))).2.2.2.2.2.2.2.1 (d8 (d8 (d8 (d8 t_)))).1 (d8 (d8 (d8 (d8 t_)))).2) (s := O34 (some ⟨n, holds, next⟩) (sgF hx l s i) i) (s' := O34 (some ⟨n, holds, next⟩) (sgF hx l s (i + 1)) (i + 1)) hb]
  exact ih (i + 1) (by omega) (by omega)
def sgK (c : Int) (f : Int → W4) : Q19 := ⟨c, ⟨(f 0).s, (f 1).s, (f 2).s, (f 3).s, (f 4).s, (f 5).s, (f 6).s, (f 7).s⟩⟩
def O34' (o : Option Q2) (c : Int) (f : Int → W4) : Option Q2 × Int × Int × Int × Int × Int × Int × Int × Int × Int × Int × Int × Int × Int × Int × Int × Int × Int × Int × Int × Int × Int × Int × Int × Int × Int × Int × Int × Int × Int × Int × Int × Int × Int := (o, c, Wd (f 0).a, Wd (f 0).b, Wd (f 0).c, Wd (f 0).d, Wd (f 1).a, Wd (f 1).b, Wd (f 1).c, Wd (f 1).d, Wd (f 2).a, Wd (f 2).b, Wd (f 2).c, Wd (f 2).d, Wd (f 3).a, Wd (f 3).b, Wd (f 3).c, Wd (f 3).d, Wd (f 4).a, Wd (f 4).b, Wd (f 4).c, Wd (f 4).d, Wd (f 5).a, Wd (f 5).b, Wd (f 5).c, Wd (f 5).d, Wd (f 6).a, Wd (f 6).b, Wd (f 6).c, Wd (f 6).d, Wd (f 7).a, Wd (f 7).b, Wd (f 7).c, Wd (f 7).d)
theorem sg_run (hx : Nx x y next) (hn : n ≤ 24) (hl8 : x.length ≤ 8) (he : ∀ e ∈ y, EdgeIn n x.length e) (l : List Int) (hl : (l.length : Int) = n) (m : Int) (y' : List Q0) (z : List Q1) {s : Int} (s0 : 0 ≤ s) (s1 : s < n) :
 Q17.f s l m x y' z (some ⟨n, holds, next⟩) = some (O34' (some ⟨n, holds, next⟩) (gt l s) (sgF hx l s x.length)) := by
 have h := sg_l0 (holds := holds) hx hn hl8 he l hl s x.length 0 (by decide) (by omega)
 rw [sgF_zero] at h
 have h' : Q17.l0 s l x (some ⟨n, holds, next⟩) 0 0 0 0 0 0 0 0 0 0 0 0 0 0 0 0 0 0 0 0 0 0 0 0 0 0 0 0 0 0 0 0 0 = some (.inl (O33 (some ⟨n, holds, next⟩) (sgF hx l s x.length))) := h
 unfold Q17.f
 rw [if_pos ⟨s0, by omega⟩, h', Q43]
 rfl
theorem num_run (hx : Nx x y next) (hn0 : 0 ≤ n) (hn : n ≤ 24) (hl8 : x.length ≤ 8) (he : ∀ e ∈ y, EdgeIn n x.length e) (l : List Int) (hl : (l.length : Int) = n) (m : Int) (y' : List Q0) (z : List Q1) :
 ∃ l', Q29.f n l m x y' z (some ⟨n, holds, next⟩) = some (l', some ⟨n, holds, next⟩) ∧ NumBy (fun s => sgK (gt l s) (sgF hx l s x.length)) n l' := by
 have hlen : (((List.replicate n.toNat (0 : Int)).length : Nat) : Int) = n := by simp; omega
 obtain ⟨r, hr, l', mp, rfl, hi⟩ := Q85 (body := fun t_ : (List Int) × (List (Q19 × Int)) × (Option Q2) × Int => Q29.l0b n l m x y' z t_.1 t_.2.1 t_.2.2.1 t_.2.2.2)
  (fun s => s.2.2.1 = some ⟨n, holds, next⟩ ∧ 0 ≤ s.2.2.2 ∧ s.2.2.2 ≤ n ∧ NInv (fun s => sgK (gt l s) (sgF hx l s x.length)) n s.2.2.2 s.1 s.2.1)
  (fun r => ∃ l' mp, r = .inl (l', mp, some ⟨n, holds, next⟩) ∧ NInv (fun s => sgK (gt l s) (sgF hx l s x.length)) n n l' mp) (fun s => (n - s.2.2.2).toNat) (fun ⟨a, mp, o, i⟩ ⟨h1, h2, h3, h4⟩ => by
   dsimp only at h1 h2 h3 h4 ⊢
   subst h1
   by_cases hi : i < n
   ·right
    have hs := sg_run (holds := holds) hx hn hl8 he l hl m y' z h2 hi
    have hw : IntKind.i64.wrap (i + 1) = i + 1 := wrap64 (by omega) (by omega)
    cases hm : mget mp (sgK (gt l i) (sgF hx l i x.length)) with
    | some v =>
     refine ⟨(st a i v, mp, some ⟨n, holds, next⟩, i + 1), ?_, ⟨rfl, by dsimp only; omega, by dsimp only; omega, h4.hit h2 hi hm⟩, by dsimp only; omega⟩
     unfold Q29.l0b
     rw [hlen, if_pos hi, hs, Option.bind_some]
     have hk : mget mp (⟨(O34' (some ⟨n, holds, next⟩ : Option Q2) (gt l i) (sgF hx l i x.length)).2.1, ⟨⟨(O34' (some ⟨n, holds, next⟩ : Option Q2) (gt l i) (sgF hx l i x.length)).2.2.1, (O34' (some ⟨n, holds, next⟩ : Option Q2) (gt l i) (sgF hx l i x.length)).2.2.2.1, (O34' (some ⟨n, holds, next⟩ : Option Q2) (gt l i) (sgF hx l i x.length)).2.2.2.2.1, (O34' (some ⟨n, holds, next⟩ : Option Q2) (gt l i) (sgF hx l i x.length)).2.2.2.2.2.1⟩, ⟨(O34' (some ⟨n, holds, next⟩ : Option Q2) (gt l i) (sgF hx l i x.length)).2.2.2.2.2.2.1, (O34' (some ⟨n, holds, next⟩ : Option Q2) (gt l i) (sgF hx l i x.length)).2.2.2.2.2.2.2.1, (O34' (some ⟨n, holds, next⟩ : Option Q2) (gt l i) (sgF hx l i x.length)).2.2.2.2.2.2.2.2.1, (O34' (some ⟨n, holds, next⟩ : Option Q2) (gt l i) (sgF hx l i x.length)).2.2.2.2.2.2.2.2.2.1⟩, ⟨(O34' (some ⟨n, holds, next⟩ : Option Q2) (gt l i) (sgF hx l i x.length)).2.2.2.2.2.2.2.2.2.2.1, (O34' (some ⟨n, holds, next⟩ : Option Q2) (gt l i) (sgF hx l i x.length)).2.2.2.2.2.2.2.2.2.2.2.1, (O34' (some ⟨n, holds, next⟩ : Option Q2) (gt l i) (sgF hx l i x.length)).2.2.2.2.2.2.2.2.2.2.2.2.1, (O34' (some ⟨n, holds, next⟩ : Option Q2) (gt l i) (sgF hx l i x.length)).2.2.2.2.2.2.2.2.2.2.2.2.2.1⟩, ⟨(O34' (some ⟨n, holds, next⟩ : Option Q2) (gt l i) (sgF hx l i x.length)).2.2.2.2.2.2.2.2.2.2.2.2.2.2.1, (O34' (some ⟨n, holds, next⟩ : Option Q2) (gt l i) (sgF hx l i x.length)).2.2.2.2.2.2.2.2.2.2.2.2.2.2.2.1, (O34' (some ⟨n, holds, next⟩ : Option Q2) (gt l i) (sgF hx l i x.length)).2.2.2.2.2.2.2.2.2.2.2.2.2.2.2.2.1, (O34' (some ⟨n, holds, next⟩ : Option Q2) (gt l i) (sgF hx l i x.length)).2.2.2.2.2.2.2.2.2.2.2.2.2.2.2.2.2.1⟩, ⟨(O34' (some ⟨n, holds, next⟩ : Option Q2) (gt l i) (sgF hx l i x.length)).2.2.2.2.2.2.2.2.2.2.2.2.2.2.2.2.2.2.1, (O34' (some ⟨n, holds, next⟩ : Option Q2) (gt l i) (sgF hx l i x.length)).2.2.2.2.2.2.2.2.2.2.2.2.2.2.2.2.2.2.2.1, (O34' (some ⟨n, holds, next⟩ : Option Q2) (gt l i) (sgF hx l i x.length)).2.2.2.2.2.2.2.2.2.2.2.2.2.2.2.2.2.2.2.2.1, (O34' (some ⟨n, holds, next⟩ : Option Q2) (gt l i) (sgF hx l i x.length)).2.2.2.2.2.2.2.2.2.2.2.2.2.2.2.2.2.2.2.2.2.1⟩, ⟨(O34' (some ⟨n, holds, next⟩ : Option Q2) (gt l i) (sgF hx l i x.length)).2.2.2.2.2.2.2.2.2.2.2.2.2.2.2.2.2.2.2.2.2.2.1, (O34' (some ⟨n, holds, next⟩ : Option Q2) (gt l i) (sgF hx l i x.length)).2.2.2.2.2.2.2.2.2.2.2.2.2.2.2.2.2.2.2.2.2.2.2.1, (O34' (some ⟨n, holds, next⟩ : Option Q2) (gt l i) (sgF hx l i x.length)).2.2.2.2.2.2.2.2.2.2.2.2.2.2.2.2.2.2.2.2.2.2.2.2.1, (O34' (some ⟨n, holds, next⟩ : Option Q2) (gt l i) (sgF hx l i x.length)).2.2.2.2.2.2.2.2.2.2.2.2.2.2.2.2.2.2.2.2.2.2.2.2.2.1⟩, ⟨(O34' (some ⟨n, holds, next⟩ : Option Q2) (gt l i) (sgF hx l i x.length)).2.2.2.2.2.2.2.2.2.2.2.2.2.2.2.2.2.2.2.2.2.2.2.2.2.2.1, (O34' (some ⟨n, holds, next⟩ : Option Q2) (gt l i) (sgF hx l i x.length)).2.2.2.2.2.2.2.2.2.2.2.2.2.2.2.2.2.2.2.2.2.2.2.2.2.2.2.1, (O34' (some ⟨n, holds, next⟩ : Option Q2) (gt l i) (sgF hx l i x.length)).2.2.2.2.2.2.2.2.2.2.2.2.2.2.2.2.2.2.2.2.2.2.2.2.2.2.2.2.1, (O34' (some ⟨n, holds, next⟩ : Option Q2) (gt l i) (sgF hx l i x.length)).2.2.2.2.2.2.2.2.2.2.2.2.2.2.2.2.2.2.2.2.2.2.2.2.2.2.2.2.2.1⟩, ⟨(O34' (some ⟨n, holds, next⟩ : Option Q2) (gt l i) (sgF hx l i x.length)).2.2.2.2.2.2.2.2.2.2.2.2.2.2.2.2.2.2.2.2.2.2.2.2.2.2.2.2.2.2.1, (O34' (some ⟨n, holds, next⟩ : Option Q2) (gt l i) (sgF hx l i x.length)).2.2.2.2.2.2.2.2.2.2.2.2.2.2.2.2.2.2.2.2.2.2.2.2.2.2.2.2.2.2.2.1, (O34' (some ⟨n, holds, next⟩ : Option Q2) (gt l i) (sgF hx l i x.length)).2.2.2.2.2.2.2.2.2.2.2.2.2.2.2.2.2.2.2.2.2.2.2.2.2.2.2.2.2.2.2.2.1, (O34' (some ⟨n, holds, next⟩ : Option Q2) (gt l i) (sgF hx l i x.length)).2.2.2.2.2.2.2.2.2.2.2.2.2.2.2.2.2.2.2.2.2.2.2.2.2.2.2.2.2.2.2.2.2⟩⟩⟩ : Q19) = some v := hm
     rw [hk]
     simp only [Option.isSome_some, if_true, Option.getD_some, if_pos (show (0 : Int) ≤ i ∧ i < n from ⟨h2, hi⟩), Q43, hw]
     rfl
    | none =>
     refine ⟨(st a i (mp.length : Int), mset mp (sgK (gt l i) (sgF hx l i x.length)) (mp.length : Int), some ⟨n, holds, next⟩, i + 1), ?_, ⟨rfl, by dsimp only; omega, by dsimp only; omega, h4.new h2 hi hm⟩, by dsimp only; omega⟩
     unfold Q29.l0b
     rw [hlen, if_pos hi, hs, Option.bind_some]
     have hk : mget mp (⟨(O34' (some ⟨n, holds, next⟩ : Option Q2) (gt l i) (sgF hx l i x.length)).2.1, ⟨⟨(O34' (some ⟨n, holds, next⟩ : Option Q2) (gt l i) (sgF hx l i x.length)).2.2.1, (O34' (some ⟨n, holds, next⟩ : Option Q2) (gt l i) (sgF hx l i x.length)).2.2.2.1, (O34' (some ⟨n, holds, next⟩ : Option Q2) (gt l i) (sgF hx l i x.length)).2.2.2.2.1, (O34' (some ⟨n, holds, next⟩ : Option Q2) (gt l i) (sgF hx l i x.length)).2.2.2.2.2.1⟩, ⟨(O34' (some ⟨n, holds, next⟩ : Option Q2) (gt l i) (sgF hx l i x.length)).2.2.2.2.2.2.1, (O34' (some ⟨n, holds, next⟩ : Option Q2) (gt l i) (sgF hx l i x.length)).2.2.2.2.2.2.2.1, (O34' (some ⟨n, holds, next⟩ : Option Q2) (gt l i) (sgF hx l i x.length)).2.2.2.2.2.2.2.2.1, (O34' (some ⟨n, holds, next⟩ : Option Q2) (gt l i) (sgF hx l i x.length)).2.2.2.2.2.2.2.2.2.1⟩, ⟨(O34' (some ⟨n, holds, next⟩ : Option Q2) (gt l i) (sgF hx l i x.length)).2.2.2.2.2.2.2.2.2.2.1, (O34' (some ⟨n, holds, next⟩ : Option Q2) (gt l i) (sgF hx l i x.length)).2.2.2.2.2.2.2.2.2.2.2.1, (O34' (some ⟨n, holds, next⟩ : Option Q2) (gt l i) (sgF hx l i x.length)).2.2.2.2.2.2.2.2.2.2.2.2.1, (O34' (some ⟨n, holds, next⟩ : Option Q2) (gt l i) (sgF hx l i x.length)).2.2.2.2.2.2.2.2.2.2.2.2.2.1⟩, ⟨(O34' (some ⟨n, holds, next⟩ : Option Q2) (gt l i) (sgF hx l i x.length)).2.2.2.2.2.2.2.2.2.2.2.2.2.2.1, (O34' (some ⟨n, holds, next⟩ : Option Q2) (gt l i) (sgF hx l i x.length)).2.2.2.2.2.2.2.2.2.2.2.2.2.2.2.1, (O34' (some ⟨n, holds, next⟩ : Option Q2) (gt l i) (sgF hx l i x.length)).2.2.2.2.2.2.2.2.2.2.2.2.2.2.2.2.1, (O34' (some ⟨n, holds, next⟩ : Option Q2) (gt l i) (sgF hx l i x.length)).2.2.2.2.2.2.2.2.2.2.2.2.2.2.2.2.2.1⟩, ⟨(O34' (some ⟨n, holds, next⟩ : Option Q2) (gt l i) (sgF hx l i x.length)).2.2.2.2.2.2.2.2.2.2.2.2.2.2.2.2.2.2.1, (O34' (some ⟨n, holds, next⟩ : Option Q2) (gt l i) (sgF hx l i x.length)).2.2.2.2.2.2.2.2.2.2.2.2.2.2.2.2.2.2.2.1, (O34' (some ⟨n, holds, next⟩ : Option Q2) (gt l i) (sgF hx l i x.length)).2.2.2.2.2.2.2.2.2.2.2.2.2.2.2.2.2.2.2.2.1, (O34' (some ⟨n, holds, next⟩ : Option Q2) (gt l i) (sgF hx l i x.length)).2.2.2.2.2.2.2.2.2.2.2.2.2.2.2.2.2.2.2.2.2.1⟩, ⟨(O34' (some ⟨n, holds, next⟩ : Option Q2) (gt l i) (sgF hx l i x.length)).2.2.2.2.2.2.2.2.2.2.2.2.2.2.2.2.2.2.2.2.2.2.1, (O34' (some ⟨n, holds, next⟩ : Option Q2) (gt l i) (sgF hx l i x.length)).2.2.2.2.2.2.2.2.2.2.2.2.2.2.2.2.2.2.2.2.2.2.2.1, (O34' (some ⟨n, holds, next⟩ : Option Q2) (gt l i) (sgF hx l i x.length)).2.2.2.2.2.2.2.2.2.2.2.2.2.2.2.2.2.2.2.2.2.2.2.2.1, (O34' (some ⟨n, holds, next⟩ : Option Q2) (gt l i) (sgF hx l i x.length)).2.2.2.2.2.2.2.2.2.2.2.2.2.2.2.2.2.2.2.2.2.2.2.2.2.1⟩, ⟨(O34' (some ⟨n, holds, next⟩ : Option Q2) (gt l i) (sgF hx l i x.length)).2.2.2.2.2.2.2.2.2.2.2.2.2.2.2.2.2.2.2.2.2.2.2.2.2.2.1, (O34' (some ⟨n, holds, next⟩ : Option Q2) (gt l i) (sgF hx l i x.length)).2.2.2.2.2.2.2.2.2.2.2.2.2.2.2.2.2.2.2.2.2.2.2.2.2.2.2.1, (O34' (some ⟨n, holds, next⟩ : Option Q2) (gt l i) (sgF hx l i x.length)).2.2.2.2.2.2.2.2.2.2.2.2.2.2.2.2.2.2.2.2.2.2.2.2.2.2.2.2.1, (O34' (some ⟨n, holds, next⟩ : Option Q2) (gt l i) (sgF hx l i x.length)).2.2.2.2.2.2.2.2.2.2.2.2.2.2.2.2.2.2.2.2.2.2.2.2.2.2.2.2.2.1⟩, ⟨(O34' (some ⟨n, holds, next⟩ : Option Q2) (gt l i) (sgF hx l i x.length)).2.2.2.2.2.2.2.2.2.2.2.2.2.2.2.2.2.2.2.2.2.2.2.2.2.2.2.2.2.2.1, (O34' (some ⟨n, holds, next⟩ : Option Q2) (gt l i) (sgF hx l i x.length)).2.2.2.2.2.2.2.2.2.2.2.2.2.2.2.2.2.2.2.2.2.2.2.2.2.2.2.2.2.2.2.1, (O34' (some ⟨n, holds, next⟩ : Option Q2) (gt l i) (sgF hx l i x.length)).2.2.2.2.2.2.2.2.2.2.2.2.2.2.2.2.2.2.2.2.2.2.2.2.2.2.2.2.2.2.2.2.1, (O34' (some ⟨n, holds, next⟩ : Option Q2) (gt l i) (sgF hx l i x.length)).2.2.2.2.2.2.2.2.2.2.2.2.2.2.2.2.2.2.2.2.2.2.2.2.2.2.2.2.2.2.2.2.2⟩⟩⟩ : Q19) = none := hm
     have hk2 : mget (mset mp (⟨(O34' (some ⟨n, holds, next⟩ : Option Q2) (gt l i) (sgF hx l i x.length)).2.1, ⟨⟨(O34' (some ⟨n, holds, next⟩ : Option Q2) (gt l i) (sgF hx l i x.length)).2.2.1, (O34' (some ⟨n, holds, next⟩ : Option Q2) (gt l i) (sgF hx l i x.length)).2.2.2.1, (O34' (some ⟨n, holds, next⟩ : Option Q2) (gt l i) (sgF hx l i x.length)).2.2.2.2.1, (O34' (some ⟨n, holds, next⟩ : Option Q2) (gt l i) (sgF hx l i x.length)).2.2.2.2.2.1⟩, ⟨(O34' (some ⟨n, holds, next⟩ : Option Q2) (gt l i) (sgF hx l i x.length)).2.2.2.2.2.2.1, (O34' (some ⟨n, holds, next⟩ : Option Q2) (gt l i) (sgF hx l i x.length)).2.2.2.2.2.2.2.1, (O34' (some ⟨n, holds, next⟩ : Option Q2) (gt l i) (sgF hx l i x.length)).2.2.2.2.2.2.2.2.1, (O34' (some ⟨n, holds, next⟩ : Option Q2) (gt l i) (sgF hx l i x.length)).2.2.2.2.2.2.2.2.2.1⟩, ⟨(O34' (some ⟨n, holds, next⟩ : Option Q2) (gt l i) (sgF hx l i x.length)).2.2.2.2.2.2.2.2.2.2.1, (O34' (some ⟨n, holds, next⟩ : Option Q2) (gt l i) (sgF hx l i x.length)).2.2.2.2.2.2.2.2.2.2.2.1, (O34' (some ⟨n, holds, next⟩ : Option Q2) (gt l i) (sgF hx l i x.length)).2.2.2.2.2.2.2.2.2.2.2.2.1, (O34' (some ⟨n, holds, next⟩ : Option Q2) (gt l i) (sgF hx l i x.length)).2.2.2.2.2.2.2.2.2.2.2.2.2.1⟩, ⟨(O34' (some ⟨n, holds, next⟩ : Option Q2) (gt l i) (sgF hx l i x.length)).2.2.2.2.2.2.2.2.2.2.2.2.2.2.1, (O34' (some ⟨n, holds, next⟩ : Option Q2) (gt l i) (sgF hx l i x.length)).2.2.2.2.2.2.2.2.2.2.2.2.2.2.2.1, (O34' (some ⟨n, holds, next⟩ : Option Q2) (gt l i) (sgF hx l i x.length)).2.2.2.2.2.2.2.2.2.2.2.2.2.2.2.2.1, (O34' (some ⟨n, holds, next⟩ : Option Q2) (gt l i) (sgF hx l i x.length)).2.2.2.2.2.2.2.2.2.2.2.2.2.2.2.2.2.1⟩, ⟨(O34' (some ⟨n, holds, next⟩ : Option Q2) (gt l i) (sgF hx l i x.length)).2.2.2.2.2.2.2.2.2.2.2.2.2.2.2.2.2.2.1, (O34' (some ⟨n, holds, next⟩ : Option Q2) (gt l i) (sgF hx l i x.length)).2.2.2.2.2.2.2.2.2.2.2.2.2.2.2.2.2.2.2.1, (O34' (some ⟨n, holds, next⟩ : Option Q2) (gt l i) (sgF hx l i x.length)).2.2.2.2.2.2.2.2.2.2.2.2.2.2.2.2.2.2.2.2.1, (O34' (some ⟨n, holds, next⟩ : Option Q2) (gt l i) (sgF hx l i x.length)).2.2.2.2.2.2.2.2.2.2.2.2.2.2.2.2.2.2.2.2.2.1⟩, ⟨(O34' (some ⟨n, holds, next⟩ : Option Q2) (gt l i) (sgF hx l i x.length)).2.2.2.2.2.2.2.2.2.2.2.2.2.2.2.2.2.2.2.2.2.2.1, (O34' (some ⟨n, holds, next⟩ : Option Q2) (gt l i) (sgF hx l i x.length)).2.2.2.2.2.2.2.2.2.2.2.2.2.2.2.2.2.2.2.2.2.2.2.1, (O34' (some ⟨n, holds, next⟩ : Option Q2) (gt l i) (sgF hx l i x.length)).2.2.2.2.2.2.2.2.2.2.2.2.2.2.2.2.2.2.2.2.2.2.2.2.1, (O34' (some ⟨n, holds, next⟩ : Option Q2) (gt l i) (sgF hx l i x.length)).2.2.2.2.2.2.2.2.2.2.2.2.2.2.2.2.2.2.2.2.2.2.2.2.2.1⟩, ⟨(O34' (some ⟨n, holds, next⟩ : Option Q2) (gt l i) (sgF hx l i x.length)).2.2.2.2.2.2.2.2.2.2.2.2.2.2.2.2.2.2.2.2.2.2.2.2.2.2.1, (O34' (some ⟨n, holds, next⟩ : Option Q2) (gt l i) (sgF hx l i x.length)).2.2.2.2.2.2.2.2.2.2.2.2.2.2.2.2.2.2.2.2.2.2.2.2.2.2.2.1, (O34' (some ⟨n, holds, next⟩ : Option Q2) (gt l i) (sgF hx l i x.length)).2.2.2.2.2.2.2.2.2.2.2.2.2.2.2.2.2.2.2.2.2.2.2.2.2.2.2.2.1, (O34' (some ⟨n, holds, next⟩ : Option Q2) (gt l i) (sgF hx l i x.length)).2.2.2.2.2.2.2.2.2.2.2.2.2.2.2.2.2.2.2.2.2.2.2.2.2.2.2.2.2.1⟩, ⟨(O34' (some ⟨n, holds, next⟩ : Option Q2) (gt l i) (sgF hx l i x.length)).2.2.2.2.2.2.2.2.2.2.2.2.2.2.2.2.2.2.2.2.2.2.2.2.2.2.2.2.2.2.1, (O34' (some ⟨n, holds, next⟩ : Option Q2) (gt l i) (sgF hx l i x.length)).2.2.2.2.2.2.2.2.2.2.2.2.2.2.2.2.2.2.2.2.2.2.2.2.2.2.2.2.2.2.2.1, (O34' (some ⟨n, holds, next⟩ : Option Q2) (gt l i) (sgF hx l i x.length)).2.2.2.2.2.2.2.2.2.2.2.2.2.2.2.2.2.2.2.2.2.2.2.2.2.2.2.2.2.2.2.2.1, (O34' (some ⟨n, holds, next⟩ : Option Q2) (gt l i) (sgF hx l i x.length)).2.2.2.2.2.2.2.2.2.2.2.2.2.2.2.2.2.2.2.2.2.2.2.2.2.2.2.2.2.2.2.2.2⟩⟩⟩ : Q19) (mp.length : Int)) (⟨(O34' (some ⟨n, holds, next⟩ : Option Q2) (gt l i) (sgF hx l i x.length)).2.1, ⟨⟨(O34' (some ⟨n, holds, next⟩ : Option Q2) (gt l i) (sgF hx l i x.length)).2.2.1, (O34' (some ⟨n, holds, next⟩ : Option Q2) (gt l i) (sgF hx l i x.length)).2.2.2.1, (O34' (some ⟨n, holds, next⟩ : Option Q2) (gt l i) (sgF hx l i x.length)).2.2.2.2.1, (O34' (some ⟨n, holds, next⟩ : Option Q2) (gt l i) (sgF hx l i x.length)).2.2.2.2.2.1⟩, ⟨(O34' (some ⟨n, holds, next⟩ : Option Q2) (gt l i) (sgF hx l i x.length)).2.2.2.2.2.2.1, (O34' (some ⟨n, holds, next⟩ : Option Q2) (gt l i) (sgF hx l i x.length)).2.2.2.2.2.2.2.1, (O34' (some ⟨n, holds, next⟩ : Option Q2) (gt l i) (sgF hx l i x.length)).2.2.2.2.2.2.2.2.1, (O34' (some ⟨n, holds, next⟩ : Option Q2) (gt l i) (sgF hx l i x.length)).2.2.2.2.2.2.2.2.2.1⟩, ⟨(O34' (some ⟨n, holds, next⟩ : Option Q2) (gt l i) (sgF hx l i x.length)).2.2.2.2.2.2.2.2.2.2.1, (O34' (some ⟨n, holds, next⟩ : Option Q2) (gt l i) (sgF hx l i x.length)).2.2.2.2.2.2.2.2.2.2.2.1, (O34' (some ⟨n, holds, next⟩ : Option Q2) (gt l i) (sgF hx l i x.length)).2.2.2.2.2.2.2.2.2.2.2.2.1, (O34' (some ⟨n, holds, next⟩ : Option Q2) (gt l i) (sgF hx l i x.length)).2.2.2.2.2.2.2.2.2.2.2.2.2.1⟩, ⟨(O34' (some ⟨n, holds, next⟩ : Option Q2) (gt l i) (sgF hx l i x.length)).2.2.2.2.2.2.2.2.2.2.2.2.2.2.1, (O34' (some ⟨n, holds, next⟩ : Option Q2) (gt l i) (sgF hx l i x.length)).2.2.2.2.2.2.2.2.2.2.2.2.2.2.2.1, (O34' (some ⟨n, holds, next⟩ : Option Q2) (gt l i) (sgF hx l i x.length)).2.2.2.2.2.2.2.2.2.2.2.2.2.2.2.2.1, (O34' (some ⟨n, holds, next⟩ : Option Q2) (gt l i) (sgF hx l i x.length)).2.2.2.2.2.2.2.2.2.2.2.2.2.2.2.2.2.1⟩, ⟨(O34' (some ⟨n, holds, next⟩ : Option Q2) (gt l i) (sgF hx l i x.length)).2.2.2.2.2.2.2.2.2.2.2.2.2.2.2.2.2.2.1, (O34' (some ⟨n, holds, next⟩ : Option Q2) (gt l i) (sgF hx l i x.length)).2.2.2.2.2.2.2.2.2.2.2.2.2.2.2.2.2.2.2.1, (O34' (some ⟨n, holds, next⟩ : Option Q2) (gt l i) (sgF hx l i x.length)).2.2.2.2.2.2.2.2.2.2.2.2.2.2.2.2.2.2.2.2.1, (O34' (some ⟨n, holds, next⟩ : Option Q2) (gt l i) (sgF hx l i x.length)).2.2.2.2.2.2.2.2.2.2.2.2.2.2.2.2.2.2.2.2.2.1⟩, ⟨(O34' (some ⟨n, holds, next⟩ : Option Q2) (gt l i) (sgF hx l i x.length)).2.2.2.2.2.2.2.2.2.2.2.2.2.2.2.2.2.2.2.2.2.2.1, (O34' (some ⟨n, holds, next⟩ : Option Q2) (gt l i) (sgF hx l i x.length)).2.2.2.2.2.2.2.2.2.2.2.2.2.2.2.2.2.2.2.2.2.2.2.1, (O34' (some ⟨n, holds, next⟩ : Option Q2) (gt l i) (sgF hx l i x.length)).2.2.2.2.2.2.2.2.2.2.2.2.2.2.2.2.2.2.2.2.2.2.2.2.1, (O34' (some ⟨n, holds, next⟩ : Option Q2) (gt l i) (sgF hx l i x.length)).2.2.2.2.2.2.2.2.2.2.2.2.2.2.2.2.2.2.2.2.2.2.2.2.2.1⟩, ⟨(O34' (some ⟨n, holds, next⟩ : Option Q2) (gt l i) (sgF hx l i x.length)).2.2.2.2.2.2.2.2.2.2.2.2.2.2.2.2.2.2.2.2.2.2.2.2.2.2.1, (O34' (some ⟨n, holds, next⟩ : Option Q2) (gt l i) (sgF hx l i x.length)).2.2.2.2.2.2.2.2.2.2.2.2.2.2.2.2.2.2.2.2.2.2.2.2.2.2.2.1, (O34' (some ⟨n, holds, next⟩ : Option Q2) (gt l i) (sgF hx l i x.length)).2.2.2.2.2.2.2.2.2.2.2.2.2.2.2.2.2.2.2.2.2.2.2.2.2.2.2.2.1, (O34' (some ⟨n, holds, next⟩ : Option Q2) (gt l i) (sgF hx l i x.length)).2.2.2.2.2.2.2.2.2.2.2.2.2.2.2.2.2.2.2.2.2.2.2.2.2.2.2.2.2.1⟩, ⟨(O34' (some ⟨n, holds, next⟩ : Option Q2) (gt l i) (sgF hx l i x.length)).2.2.2.2.2.2.2.2.2.2.2.2.2.2.2.2.2.2.2.2.2.2.2.2.2.2.2.2.2.2.1, (O34' (some ⟨n, holds, next⟩ : Option Q2) (gt l i) (sgF hx l i x.length)).2.2.2.2.2.2.2.2.2.2.2.2.2.2.2.2.2.2.2.2.2.2.2.2.2.2.2.2.2.2.2.1, (O34' (some ⟨n, holds, next⟩ : Option Q2) (gt l i) (sgF hx l i x.length)).2.2.2.2.2.2.2.2.2.2.2.2.2.2.2.2.2.2.2.2.2.2.2.2.2.2.2.2.2.2.2.2.1, (O34' (some ⟨n, holds, next⟩ : Option Q2) (gt l i) (sgF hx l i x.length)).2.2.2.2.2.2.2.2.2.2.2.2.2.2.2.2.2.2.2.2.2.2.2.2.2.2.2.2.2.2.2.2.2⟩⟩⟩ : Q19) = some (mp.length : Int) := by rw [Q120, if_pos rfl]
     rw [hk, hk2]
     simp only [Option.isSome_none, Bool.false_eq_true, if_false, Option.getD_some, if_pos (show (0 : Int) ≤ i ∧ i < n from ⟨h2, hi⟩), Q43, hw]
     rfl
   ·left
    have hin : i = n := by omega
    subst hin
    refine ⟨.inl (a, mp, some ⟨i, holds, next⟩), ?_, a, mp, rfl, h4⟩
    unfold Q29.l0b
    rw [hlen, if_neg hi]
    rfl) (List.replicate n.toNat 0, [], some ⟨n, holds, next⟩, 0) ⟨rfl, Int.le_refl _, hn0, NInv.zero hlen⟩
 refine ⟨l', ?_, hi.fin⟩
 unfold Q29.f
 have hl0 : Q29.l0 n l m x y' z (List.replicate n.toNat 0) [] (some ⟨n, holds, next⟩) 0 = some (.inl (l', mp, some ⟨n, holds, next⟩)) := hr
 rw [if_pos (by omega), hl0, Q43]
end
end Go.Bw
namespace Go.Bw
open Go Go.RowKit

theorem Q134 {ρ : Type} {body : Int → Option (Int ⊕ (Unit ⊕ ρ))} {N : Int} {p : Int → Prop} {bad : ρ} (hN : N ≤ 9223372036854775807) (k0 : Int) (h0 : 0 ≤ k0)
 (h : ∀ i, k0 ≤ i → i < N → (p i ∧ body i = some (.inl (IntKind.i64.wrap (i + 1)))) ∨ (¬ p i ∧ body i = some (.inr (.inr bad)))) (he : ∀ i, ¬ i < N → body i = some (.inr (.inl ()))) :
 (iter body k0 = some (.inl ()) ∧ ∀ i, k0 ≤ i → i < N → p i) ∨ (iter body k0 = some (.inr bad) ∧ ∃ i, k0 ≤ i ∧ i < N ∧ ¬ p i) := by
 obtain ⟨r, hr, hq⟩ := Q85 (body := body) (fun i => k0 ≤ i ∧ ∀ j, k0 ≤ j → j < i → p j) (fun r => (r = .inl () ∧ ∀ i, k0 ≤ i → i < N → p i) ∨ (r = .inr bad ∧ ∃ i, k0 ≤ i ∧ i < N ∧ ¬ p i)) (fun i => (N - i).toNat) (fun i ⟨h1, h2⟩ => by
  by_cases hi : i < N
  ·rcases h i h1 hi with ⟨hp, hb⟩ | ⟨hp, hb⟩
   ·right
    rw [wrap64 (by omega) (by omega)] at hb
    refine ⟨_, hb, ⟨by omega, fun j j0 j1 => ?_⟩, by omega⟩
    by_cases hj : j = i
    ·subst hj; exact hp
    ·exact h2 j j0 (by omega)
   ·left; exact ⟨_, hb, .inr ⟨rfl, i, h1, hi, hp⟩⟩
  ·left; exact ⟨_, he i hi, .inl ⟨rfl, fun j j0 j1 => h2 j j0 (by omega)⟩⟩) k0 ⟨Int.le_refl _, fun j j0 j1 => by omega⟩
 rcases hq with ⟨rfl, hq⟩ | ⟨rfl, hq⟩
 ·exact .inl ⟨hr, hq⟩
 ·exact .inr ⟨hr, hq⟩
def OkB (c : Int) : Prop := 97 ≤ c ∧ c ≤ 122 ∨ 65 ≤ c ∧ c ≤ 90 ∨ 48 ≤ c ∧ c ≤ 57 ∨ c = 95
theorem rune_run (r : Int) : ∃ b, Q69.f r = some b ∧ (b = true ↔ ¬ OkB r) := by
 obtain ⟨b, hb⟩ := rune_name r
 refine ⟨b, hb, ?_⟩
 unfold Q69.f at hb
 unfold OkB
 by_cases h1 : 97 ≤ r <;> by_cases h2 : 65 ≤ r <;> by_cases h3 : 48 ≤ r <;> simp [h1, h2, h3, jn] at hb <;> (try omega) <;>
  (by_cases h4 : r ≤ 122 <;> by_cases h5 : r ≤ 90 <;> by_cases h6 : r ≤ 57 <;> by_cases h7 : r = 95 <;> simp [h4, h5, h6, h7] at hb <;> first | omega | (subst hb; simp; omega))
theorem rune_low {s : Bs} {k : Nat} (hk : k < s.length) (h : bat s k < 128) : runeAt s k = bat s k ∧ runeLen s k = 1 := by
 have hg : ((ByteArray.mk s.toArray).get! k).toNat = (s.getD k 0).toNat := by
  simp [ByteArray.get!, List.getD_eq_getElem?_getD, hk]
 have h' : (s.getD k 0).toNat < 128 := by
  have : bat s k = ((s.getD k 0).toNat : Int) := by simp [bat]
  omega
 unfold runeAt runeLen Utf8.decode
 simp only [Nat.add_zero, hg, if_pos (show (s.getD k 0).toNat < 0x80 from h')]
 simp [bat]
theorem rune_high {s : Bs} {k : Nat} (hk : k < s.length) (h : 128 ≤ bat s k) : 128 ≤ runeAt s k := by
 have hg : ((ByteArray.mk s.toArray).get! k).toNat = (s.getD k 0).toNat := by
  simp [ByteArray.get!, List.getD_eq_getElem?_getD, hk]
 have h' : ¬ (s.getD k 0).toNat < 0x80 := by
  have : bat s k = ((s.getD k 0).toNat : Int) := by simp [bat]
  omega
 unfold runeAt Utf8.decode
 simp only [Nat.add_zero, hg, if_neg h']
 have e : (Utf8.runeError : Nat) = 65533 := rfl
 repeat' split
 all_goals try dsimp only
 all_goals first
  | omega
  | (rename_i hc; simp only [Bool.and_eq_true, decide_eq_true_eq] at hc; omega)
  | (rw [e]; omega)
theorem okB_low {c : Int} (h : OkB c) : c < 128 := by unfold OkB at h; omega
def NameS (s : Bs) : Prop := 1 ≤ s.length ∧ s.length ≤ 8 ∧ 97 ≤ bat s 0 ∧ bat s 0 ≤ 122 ∧ s ≠ [116, 116] ∧ s ≠ [102, 102] ∧ s ≠ [109, 117] ∧ s ≠ [110, 117] ∧ ∀ i : Int, 0 ≤ i → i < (s.length : Int) → OkB (bat s i)
theorem Q284 (s : Bs) : ∃ b, Q71.f s = some b ∧ (b = true ↔ ¬ ∀ i : Int, 0 ≤ i → i < (s.length : Int) → OkB (bat s i)) := by
 obtain ⟨r, hr, hq⟩ := Q85 (body := fun t_ : Nat => Q37.l0b s true t_) (fun k => ∀ i : Int, 0 ≤ i → i < (k : Int) → i < (s.length : Int) → OkB (bat s i))
  (fun r => (∃ k, r = .inl k ∧ ∀ i : Int, 0 ≤ i → i < (s.length : Int) → OkB (bat s i)) ∨ ∃ k : Nat, r = .inr (k : Int) ∧ ¬ ∀ i : Int, 0 ≤ i → i < (s.length : Int) → OkB (bat s i)) (fun k => s.length - k) (fun k hI => by
   unfold Q37.l0b
   by_cases hk : k < s.length
   ·obtain ⟨b, hb, hb2⟩ := rune_run (runeAt s k)
    rw [if_pos hk, hb]
    simp only [Option.bind_some]
    by_cases hl : bat s k < 128
    ·obtain ⟨e1, e2⟩ := rune_low hk hl
     rw [e1] at hb2
     rw [e2]
     cases b with
     | true =>
      left
      refine ⟨_, rfl, .inr ⟨k, rfl, fun hall => hb2.1 rfl (hall k (by omega) (by omega))⟩⟩
     | false =>
      right
      have hok : OkB (bat s k) := Classical.not_not.1 fun h => by have := hb2.2 h; cases this
      refine ⟨_, rfl, fun i i0 i1 i2 => ?_, by omega⟩
      by_cases hi : i = (k : Int)
      ·subst hi; exact hok
      ·exact hI i i0 (by omega) i2
    ·have hh := rune_high hk (by omega)
     have hbt : b = true := hb2.2 fun h => by have := okB_low h; omega
     subst hbt
     left
     exact ⟨_, rfl, .inr ⟨k, rfl, fun hall => by have := okB_low (hall k (by omega) (by omega)); omega⟩⟩
   ·left; rw [if_neg hk]; exact ⟨_, rfl, .inl ⟨k, rfl, fun i i0 i1 => hI i i0 (by omega) i1⟩⟩) 0 (fun i i0 i1 => by omega)
 unfold Q71.f Q82.f Q37.f Q37.l0
 rw [hr]
 rcases hq with ⟨k, rfl, hq⟩ | ⟨k, rfl, hq⟩
 ·exact ⟨false, rfl, by simp; exact hq⟩
 ·exact ⟨true, by simp [jn], by simp only [true_iff]; exact hq⟩
end Go.Bw
namespace Go.Bw
open Go Go.RowKit

theorem Q140 {x : Option (Unit ⊕ Bool)} {p : Prop} (h : (x = some (.inl ()) ∧ p) ∨ (x = some (.inr false) ∧ ¬ p)) : ∃ b, jn x (fun _ => some true) = some b ∧ (b = true ↔ p) := by
 rcases h with ⟨rfl, h⟩ | ⟨rfl, h⟩
 ·exact ⟨true, rfl, by simp [h]⟩
 ·exact ⟨false, rfl, by simp [h]⟩
theorem Q218 (s : Bs) : ∃ b, Q56.f s = some b ∧ (b = true ↔ NameS s) := by
 obtain ⟨c, hc, hc2⟩ := Q284 s
 unfold Q56.f NameS
 by_cases h1 : (s.length : Int) < 1
 ·exact ⟨false, by simp [h1, jn], by simp; omega⟩
 by_cases h2 : 8 < (s.length : Int)
 ·exact ⟨false, by simp [h1, h2, jn], by simp; omega⟩
 have h0 : (0 : Int) ≤ 0 ∧ 0 < (s.length : Int) := by omega
 simp only [if_neg h1, Q43, decide_eq_false h2, Bool.false_eq_true, if_false, if_pos h0]
 by_cases h3 : bat s 0 < 97
 ·exact ⟨false, by simp [h3, jn], by simp; omega⟩
 by_cases h4 : 122 < bat s 0
 ·exact ⟨false, by simp [h3, h4, jn], by simp; omega⟩
 simp only [decide_eq_false h3, decide_eq_false h4, Bool.false_eq_true, if_false, Q43, Q111, hc, Option.bind_some]
 by_cases k1 : s = [116, 116]
 ·exact ⟨false, by simp [k1], by simp [k1]⟩
 by_cases k2 : s = [102, 102]
 ·exact ⟨false, by simp [k2], by simp [k2]⟩
 by_cases k3 : s = [109, 117]
 ·exact ⟨false, by simp [k3], by simp [k3]⟩
 by_cases k4 : s = [110, 117]
 ·exact ⟨false, by simp [k4], by simp [k4]⟩
 refine ⟨!c, by simp [k1, k2, k3, k4], ?_⟩
 have hc3 : (!c) = true ↔ ∀ i : Int, 0 ≤ i → i < (s.length : Int) → OkB (bat s i) := by
  cases c with
  | true => simp only [Bool.not_true, Bool.false_eq_true, false_iff]; exact hc2.1 rfl
  | false =>
   simp only [Bool.not_false, true_iff]
   exact Classical.not_not.1 fun h => by have := hc2.2 h; cases this
 rw [hc3]
 exact ⟨fun h => ⟨by omega, by omega, by omega, by omega, k1, k2, k3, k4, h⟩, fun h => h.2.2.2.2.2.2.2.2⟩
def Rise {α : Type} [Inhabited α] (lt : α → α → Prop) (a : List α) : Prop := ∀ i : Int, 1 ≤ i → i < (a.length : Int) → lt (gt a (i - 1)) (gt a i)
theorem Q248 (a : List Int) (ha : (a.length : Int) ≤ 9223372036854775807) : ∃ b, Q38.f a = some b ∧ (b = true ↔ Rise (· < ·) a) := by
 refine Q140 ?_
 rcases Q134 (body := fun t_ : Int => Q38.l0b a t_) (N := a.length) (p := fun i => gt a (i - 1) < gt a i) (bad := false) ha 1 (by decide) (fun i h0 h1 => by
  simp only [Q38.l0b]
  rw [if_pos h1, wrap64 (x := i - 1) (by omega) (by omega), if_pos (by omega), if_pos (by omega), Q184]
  simp only [Option.bind_some]
  by_cases hp : gt a (i - 1) < gt a i
  ·left; rw [if_neg (by have := Q129.2 hp; omega)]; exact ⟨hp, rfl⟩
  ·right; rw [if_pos (by have : ¬ cmp3 (gt a (i - 1)) (gt a i) < 0 := fun h => hp (Q129.1 h); omega)]; exact ⟨hp, rfl⟩) (fun i h => by simp only [Q38.l0b]; rw [if_neg h]; rfl) with ⟨h, q⟩ | ⟨h, i, i0, i1, i2⟩
 ·exact .inl ⟨h, q⟩
 ·exact .inr ⟨h, fun hr => i2 (hr i i0 i1)⟩
def BLt (x y : Bs) : Prop := Lib.compareBytes x y < 0
theorem Q272 (a : List Bs) (ha : (a.length : Int) ≤ 9223372036854775807) : ∃ b, Q35.f a = some b ∧ (b = true ↔ Rise BLt a) := by
 refine Q140 ?_
 rcases Q134 (body := fun t_ : Int => Q35.l0b a t_) (N := a.length) (p := fun i => BLt (gt a (i - 1)) (gt a i)) (bad := false) ha 1 (by decide) (fun i h0 h1 => by
  simp only [Q35.l0b]
  rw [if_pos h1, wrap64 (x := i - 1) (by omega) (by omega), if_pos (by omega), if_pos (by omega)]
  simp only [Q62.f, Q73.f, Option.bind_some]
  by_cases hp : BLt (gt a (i - 1)) (gt a i)
  ·left; rw [if_neg (by unfold BLt at hp; omega)]; exact ⟨hp, rfl⟩
  ·right; rw [if_pos (by unfold BLt at hp; omega)]; exact ⟨hp, rfl⟩) (fun i h => by simp only [Q35.l0b]; rw [if_neg h]; rfl) with ⟨h, q⟩ | ⟨h, i, i0, i1, i2⟩
 ·exact .inl ⟨h, q⟩
 ·exact .inr ⟨h, fun hr => i2 (hr i i0 i1)⟩
theorem Q265 (a : List Q1) (ha : (a.length : Int) ≤ 9223372036854775807) : ∃ b, Q42.f a = some b ∧ (b = true ↔ Rise (fun p q => BLt p.Name q.Name) a) := by
 refine Q140 ?_
 rcases Q134 (body := fun t_ : Int => Q42.l0b a t_) (N := a.length) (p := fun i => BLt (gt a (i - 1)).Name (gt a i).Name) (bad := false) ha 1 (by decide) (fun i h0 h1 => by
  simp only [Q42.l0b]
  rw [if_pos h1, wrap64 (x := i - 1) (by omega) (by omega), if_pos (by omega), if_pos (by omega)]
  simp only [Q70.f, Q62.f, Q73.f, Option.bind_some]
  by_cases hp : BLt (gt a (i - 1)).Name (gt a i).Name
  ·left; rw [if_neg (by unfold BLt at hp; omega)]; exact ⟨hp, rfl⟩
  ·right; rw [if_pos (by unfold BLt at hp; omega)]; exact ⟨hp, rfl⟩) (fun i h => by simp only [Q42.l0b]; rw [if_neg h]; rfl) with ⟨h, q⟩ | ⟨h, i, i0, i1, i2⟩
 ·exact .inl ⟨h, q⟩
 ·exact .inr ⟨h, fun hr => i2 (hr i i0 i1)⟩
theorem Q264 (a : List Q0) (ha : (a.length : Int) ≤ 9223372036854775807) : ∃ b, Q36.f a = some b ∧ (b = true ↔ Rise edgeLt a) := by
 refine Q140 ?_
 rcases Q134 (body := fun t_ : Int => Q36.l0b a t_) (N := a.length) (p := fun i => edgeLt (gt a (i - 1)) (gt a i)) (bad := false) ha 1 (by decide) (fun i h0 h1 => by
  simp only [Q36.l0b]
  rw [if_pos h1, wrap64 (x := i - 1) (by omega) (by omega), if_pos (by omega), if_pos (by omega), Q189]
  simp only [Option.bind_some]
  by_cases hp : edgeLt (gt a (i - 1)) (gt a i)
  ·left; rw [if_neg (by have := Q175.2 hp; omega)]; exact ⟨hp, rfl⟩
  ·right; rw [if_pos (by have : ¬ edgeCmp (gt a (i - 1)) (gt a i) < 0 := fun h => hp (Q175.1 h); omega)]; exact ⟨hp, rfl⟩) (fun i h => by simp only [Q36.l0b]; rw [if_neg h]; rfl) with ⟨h, q⟩ | ⟨h, i, i0, i1, i2⟩
 ·exact .inl ⟨h, q⟩
 ·exact .inr ⟨h, fun hr => i2 (hr i i0 i1)⟩
end Go.Bw
namespace Go.Bw
open Go Go.RowKit

theorem names_iff (a : List Bs) (ha : (a.length : Int) ≤ 9223372036854775807) : ∃ b, Q72.f a = some b ∧ (b = true ↔ ¬ ∀ s ∈ a, NameS s) := by
 -- all that is passed is a name
 have key := Q85 (body := fun t_ : Int => Q40.l0b a t_) (fun i => 0 ≤ i ∧ ∀ j : Int, 0 ≤ j → j < i → j < (a.length : Int) → NameS (gt a j)) (fun r => r = .inl () ∧ (∀ s ∈ a, NameS s) ∨ ∃ k : Int, 0 ≤ k ∧ r = .inr k ∧ ¬ ∀ s ∈ a, NameS s) (fun i => ((a.length : Int) - i).toNat) (fun i ⟨h0, h2⟩ => by
  unfold Q40.l0b Q81.f
  by_cases h1 : i < (a.length : Int)
  ·obtain ⟨c, hc, hc2⟩ := Q218 (gt a i)
   rw [if_pos h1, if_pos ⟨h0, h1⟩, hc]
   simp only [Option.bind_some]
   cases c with
   | true =>
    right
    rw [wrap64 (x := i + 1) (by omega) (by omega)]
    refine ⟨_, rfl, ⟨by omega, fun j j0 j1 j2 => ?_⟩, by omega⟩
    by_cases hj : j = i
    ·subst hj; exact hc2.1 rfl
    ·exact h2 j j0 (by omega) j2
   | false => left; exact ⟨_, rfl, .inr ⟨i, h0, rfl, fun h => by have := hc2.2 (h _ (Q99 h0 h1)); cases this⟩⟩
  ·left; rw [if_neg h1]
   refine ⟨_, rfl, .inl ⟨rfl, fun s hs => ?_⟩⟩
   obtain ⟨k, hk, rfl⟩ := List.getElem_of_mem hs
   have := h2 k (by omega) (by omega) (by omega)
   rwa [Q104 (List.getElem?_eq_getElem hk)] at this) 0 ⟨Int.le_refl _, fun j j0 j1 => by omega⟩
 obtain ⟨r', hr', hq'⟩ := key
 unfold Q72.f Q40.f Q40.l0
 rw [hr']
 rcases hq' with ⟨rfl, h⟩ | ⟨k, k0, rfl, h⟩
 ·exact ⟨false, rfl, by simp; exact h⟩
 ·exact ⟨true, by simp [jn, k0], by simp only [true_iff]; exact h⟩
def StatesS (n : Int) (a : List Int) : Prop := (∀ s ∈ a, 0 ≤ s ∧ s < n) ∧ Rise (· < ·) a
theorem inS_iff (a : List Int) (n : Int) (x : List Bs) (y : List Q0) (z : List Q1) (ha : (a.length : Int) ≤ 9223372036854775807) : ∃ b, Q76.f a n x y z = some b ∧ (b = true ↔ ¬ ∀ s ∈ a, 0 ≤ s ∧ s < n) := by
 have key := Q85 (body := fun t_ : Int => Q41.l0b a n x y z t_) (fun i => 0 ≤ i ∧ ∀ j : Int, 0 ≤ j → j < i → j < (a.length : Int) → 0 ≤ gt a j ∧ gt a j < n) (fun r => r = .inl () ∧ (∀ s ∈ a, 0 ≤ s ∧ s < n) ∨ ∃ k : Int, 0 ≤ k ∧ r = .inr k ∧ ¬ ∀ s ∈ a, 0 ≤ s ∧ s < n) (fun i => ((a.length : Int) - i).toNat) (fun i ⟨h0, h2⟩ => by
  unfold Q41.l0b Q80.f
  by_cases h1 : i < (a.length : Int)
  ·rw [if_pos h1, if_pos ⟨h0, h1⟩, in_run]
   simp only [Option.bind_some]
   by_cases hp : 0 ≤ gt a i ∧ gt a i < n
   ·right
    rw [wrap64 (x := i + 1) (by omega) (by omega)]
    refine ⟨i + 1, by simp [hp, nx], ⟨by omega, fun j j0 j1 j2 => ?_⟩, by omega⟩
    by_cases hj : j = i
    ·subst hj; exact hp
    ·exact h2 j j0 (by omega) j2
   ·left; exact ⟨.inr i, by simp [hp, upL], .inr ⟨i, h0, rfl, fun h => hp (h _ (Q99 h0 h1))⟩⟩
  ·left; rw [if_neg h1]
   refine ⟨_, rfl, .inl ⟨rfl, fun s hs => ?_⟩⟩
   obtain ⟨k, hk, rfl⟩ := List.getElem_of_mem hs
   have := h2 k (by omega) (by omega) (by omega)
   rwa [Q104 (List.getElem?_eq_getElem hk)] at this) 0 ⟨Int.le_refl _, fun j j0 j1 => by omega⟩
 obtain ⟨r', hr', hq'⟩ := key
 unfold Q76.f Q41.f Q41.l0
 rw [hr']
 rcases hq' with ⟨rfl, h⟩ | ⟨k, k0, rfl, h⟩
 ·exact ⟨false, rfl, by simp; exact h⟩
 ·exact ⟨true, by simp [jn, k0], by simp only [true_iff]; exact h⟩
end Go.Bw
namespace Go.Bw
open Go Go.RowKit

def W8 (v : BitVec 8) : Int := (v.toNat : Int)
theorem Q135 (v : BitVec 8) : BitVec.ofInt 8 (W8 v) = v := by
 unfold W8
 apply BitVec.eq_of_toNat_eq
 simp
theorem W8.inj {u v : BitVec 8} (h : W8 u = W8 v) : u = v := by rw [← Q135 u, h, Q135]
theorem wrap8 {x : Int} (h0 : 0 ≤ x) (h1 : x < 256) : IntKind.u8.wrap x = x := by
 simp [IntKind.wrap, IntKind.bits, IntKind.signed]
 omega
theorem wrap_w8 (v : BitVec 8) : IntKind.u8.wrap (v.toNat : Int) = W8 v := by
 have := v.isLt
 exact wrap8 (by omega) (by omega)
theorem bor_w8 (u v : BitVec 8) : bor .u8 (W8 u) (W8 v) = W8 (u ||| v) := by
 show IntKind.u8.wrap ((BitVec.ofInt 8 (W8 u) ||| BitVec.ofInt 8 (W8 v)).toNat : Int) = _
 rw [Q135, Q135, wrap_w8]
theorem shl8 {k : Int} (h0 : 0 ≤ k) (h1 : k < 8) : Bw.shl .u8 1 k = W8 (BitVec.twoPow 8 k.toNat) := by
 obtain ⟨m, rfl⟩ := Int.eq_ofNat_of_zero_le h0
 have hm : m < 8 := by omega
 match m, hm with
 | 0, _ => rfl
 | 1, _ => rfl
 | 2, _ => rfl
 | 3, _ => rfl
 | 4, _ => rfl
 | 5, _ => rfl
 | 6, _ => rfl
 | 7, _ => rfl
def full8 (m : Nat) : BitVec 8 := BitVec.allOnes 8 >>> (8 - m)
theorem full_run {m : Nat} (hm : m ≤ 8) : IntKind.u8.wrap (Bw.shl .u8 1 (m : Int) - 1) = W8 (full8 m) := by
 match m, hm with
 | 0, _ => rfl
 | 1, _ => rfl
 | 2, _ => rfl
 | 3, _ => rfl
 | 4, _ => rfl
 | 5, _ => rfl
 | 6, _ => rfl
 | 7, _ => rfl
 | 8, _ => rfl
theorem Q215 {m k : Nat} (hm : m ≤ 8) (hk : k < 8) : (full8 m).getLsbD k = decide (k < m) := by
 unfold full8
 rw [BitVec.getLsbD_ushiftRight, BitVec.getLsbD_allOnes]
 rw [decide_eq_decide]
 omega
def UsedS (m : Nat) (y : List Q0) : Prop := ∀ k : Int, 0 ≤ k → k < (m : Int) → ∃ e ∈ y, e.Action = k
def Mask (v : BitVec 8) (y : List Q0) : Prop := ∀ k : Nat, k < 8 → (v.getLsbD k = true ↔ ∃ e ∈ y, e.Action = (k : Int))
theorem Q244 {v : BitVec 8} {y : List Q0} {n : Int} {m : Nat} (hv : Mask v y) (hm : m ≤ 8) (he : ∀ e ∈ y, EdgeIn n m e) : v = full8 m ↔ UsedS m y := by
 constructor
 ·rintro rfl k k0 k1
  have := (hv k.toNat (by omega)).1 (by rw [Q215 hm (by omega)]; simp; omega)
  obtain ⟨e, h1, h2⟩ := this
  exact ⟨e, h1, by omega⟩
 ·intro h
  apply BitVec.eq_of_getLsbD_eq
  intro k hk
  rw [Q215 hm hk, Bool.eq_iff_iff, hv k hk, decide_eq_true_eq]
  constructor
  ·rintro ⟨e, h1, h2⟩
   have := (he e h1).2.2.2.2.2
   omega
  ·intro hkm
   exact h k (by omega) (by omega)
theorem edges_iff (n : Int) (x : List Bs) (y : List Q0) (z : List Q1) (hy : (y.length : Int) ≤ 9223372036854775807) (hx : x.length ≤ 8) :
 (∃ v, Q18.l0 n x y z 0 0 = some (.inl (W8 v)) ∧ Mask v y ∧ ∀ e ∈ y, EdgeIn n x.length e) ∨ (Q18.l0 n x y z 0 0 = some (.inr false) ∧ ¬ ∀ e ∈ y, EdgeIn n x.length e) := by
 obtain ⟨r, hr, hq⟩ := Q85 (body := fun t_ : Int × Int => Q18.l0b n x y z t_.1 t_.2) (fun s => 0 ≤ s.2 ∧ s.2 ≤ (y.length : Int) ∧ (∀ e ∈ y.take s.2.toNat, EdgeIn n x.length e) ∧ ∃ v, s.1 = W8 v ∧ Mask v (y.take s.2.toNat))
  (fun r => (∃ v, r = .inl (W8 v) ∧ Mask v y ∧ ∀ e ∈ y, EdgeIn n x.length e) ∨ (r = .inr false ∧ ¬ ∀ e ∈ y, EdgeIn n x.length e)) (fun s => ((y.length : Int) - s.2).toNat) (fun ⟨u, i⟩ ⟨h0, h1, h2, v, h3, h4⟩ => by
   dsimp only at h0 h1 h2 h3 h4 ⊢
   subst h3
   unfold Q18.l0b
   by_cases hi : i < (y.length : Int)
   ·have hm := Q99 h0 hi
    rw [if_pos hi, if_pos ⟨h0, hi⟩, in_run, in_run]
    simp only [Option.bind_some]
    by_cases e1 : 0 ≤ (gt y i).From ∧ (gt y i).From < n
    ·by_cases e2 : 0 ≤ (gt y i).To ∧ (gt y i).To < n
     ·by_cases e3 : (gt y i).Action < 0
      ·left; exact ⟨_, by simp [e1, e2, e3, jn, upL], .inr ⟨rfl, fun h => by have := (h _ hm).2.2.2.2.1; omega⟩⟩
      ·by_cases e4 : (x.length : Int) ≤ (gt y i).Action
       ·left; exact ⟨_, by simp [e1, e2, e3, e4, jn, upL], .inr ⟨rfl, fun h => by have := (h _ hm).2.2.2.2.2; omega⟩⟩
       ·right
        have e5 : 0 ≤ (gt y i).Action := by omega
        have hw : IntKind.i64.wrap (i + 1) = i + 1 := wrap64 (by omega) (by omega)
        have ht : y.take (i + 1).toNat = y.take i.toNat ++ [gt y i] := by
         rw [show (i + 1).toNat = i.toNat + 1 from by omega, List.take_add_one, Q100 h0 hi]; rfl
        refine ⟨(W8 (v ||| BitVec.twoPow 8 (gt y i).Action.toNat), i + 1), by simp [e1, e2, e3, e4, e5, jn, nx, hw, shl8 e5 (by omega), bor_w8], ⟨by dsimp only; omega, by dsimp only; omega, fun e he => ?_, _, rfl, fun k hk => ?_⟩, by dsimp only; omega⟩
        ·dsimp only at he
         rw [ht] at he
         rcases List.mem_append.1 he with he | he
         ·exact h2 e he
         ·simp at he; subst he
          exact ⟨e1.1, e1.2, e2.1, e2.2, e5, by omega⟩
        ·dsimp only
         rw [ht, BitVec.getLsbD_or, Bool.or_eq_true, h4 k hk, BitVec.getLsbD_twoPow]
         constructor
         ·rintro (⟨e, a, b⟩ | h)
          ·exact ⟨e, by simp [a], b⟩
          ·simp at h
           exact ⟨gt y i, by simp, by omega⟩
         ·rintro ⟨e, a, b⟩
          rcases List.mem_append.1 a with a | a
          ·exact .inl ⟨e, a, b⟩
          ·simp at a
           subst a
           right
           simp
           omega
     ·left; exact ⟨_, by simp [e1, e2, jn, upL], .inr ⟨rfl, fun h => e2 ⟨(h _ hm).2.2.1, (h _ hm).2.2.2.1⟩⟩⟩
    ·left; exact ⟨_, by simp [e1, jn, upL], .inr ⟨rfl, fun h => e1 ⟨(h _ hm).1, (h _ hm).2.1⟩⟩⟩
   ·left
    rw [if_neg hi]
    rw [List.take_of_length_le (by omega)] at h2 h4
    exact ⟨_, rfl, .inl ⟨v, rfl, h4, h2⟩⟩) (0, 0) ⟨Int.le_refl _, by dsimp only; omega, by simp, 0#8, rfl, fun k hk => by simp⟩
 rcases hq with ⟨v, rfl, h⟩ | ⟨rfl, h⟩
 ·exact .inl ⟨v, hr, h⟩
 ·exact .inr ⟨hr, h⟩
def PropS (n : Int) (p : Q1) : Prop := NameS p.Name ∧ StatesS n p.States
theorem props_iff (n : Int) (x : List Bs) (y : List Q0) (z : List Q1) (hz : (z.length : Int) ≤ 9223372036854775807) (hs : ∀ p ∈ z, (p.States.length : Int) ≤ 9223372036854775807) :
 (Q18.l1 n x y z 0 = some (.inl ()) ∧ ∀ p ∈ z, PropS n p) ∨ (Q18.l1 n x y z 0 = some (.inr false) ∧ ¬ ∀ p ∈ z, PropS n p) := by
 have key := Q134 (body := fun t_ : Int => Q18.l1b n x y z t_) (N := z.length) (p := fun i => PropS n (gt z i)) (bad := false) hz 0 (by decide) (fun i hi h1 => by
  simp only [Q18.l1b]
  obtain ⟨b1, hb1, c1⟩ := Q218 (gt z i).Name
  obtain ⟨b2, hb2, c2⟩ := Q248 (gt z i).States (hs _ (Q99 hi h1))
  obtain ⟨b3, hb3, c3⟩ := inS_iff (gt z i).States n x y z (hs _ (Q99 hi h1))
  rw [if_pos h1, if_pos ⟨hi, h1⟩, hb1, hb2, hb3]
  unfold PropS StatesS
  rw [← c1, ← c2]
  have c3' : (∀ s ∈ (gt z i).States, 0 ≤ s ∧ s < n) ↔ b3 = false := by
   cases b3 with
   | true => simp only [Bool.true_eq_false, iff_false]; exact c3.1 rfl
   | false => simp only [iff_true]; exact Classical.not_not.1 fun h => by have := c3.2 h; cases this
  rw [c3']
  cases b1 <;> cases b2 <;> cases b3 <;> simp [jn, nx, upL]) (fun i h => by simp only [Q18.l1b]; rw [if_neg h]; rfl)
 have hiff : (∀ i : Int, 0 ≤ i → i < (z.length : Int) → PropS n (gt z i)) ↔ ∀ p ∈ z, PropS n p := by
  constructor
  ·intro h p hp
   obtain ⟨k, hk, rfl⟩ := List.getElem_of_mem hp
   have := h k (by omega) (by omega)
   rwa [Q104 (List.getElem?_eq_getElem hk)] at this
  ·exact fun h i i0 i1 => h _ (Q99 i0 i1)
 rcases key with ⟨h, q⟩ | ⟨h, i, i0, i1, i2⟩
 ·exact .inl ⟨h, hiff.1 q⟩
 ·exact .inr ⟨h, fun hr => i2 (hiff.2 hr i i0 i1)⟩
structure RightS (n : Int) (x : List Bs) (y : List Q0) (z : List Q1) : Prop where
 n0 : 1 ≤ n
 n1 : n ≤ 24
 nx : x.length ≤ 8
 nz : z.length ≤ 8
 ny : y.length ≤ 200
 ed : ∀ e ∈ y, EdgeIn n x.length e
 pr : ∀ p ∈ z, PropS n p
 nm : ∀ s ∈ x, NameS s
 us : UsedS x.length y
 re : Rise edgeLt y
 rx : Rise BLt x
 rz : Rise (fun p q => BLt p.Name q.Name) z
theorem Q226 (n : Int) (x : List Bs) (y : List Q0) (z : List Q1) (hs : ∀ p ∈ z, (p.States.length : Int) ≤ 9223372036854775807) : ∃ b, Q18.f n x y z = some b ∧ (b = true ↔ RightS n x y z) := by
 have no : ∀ {P : Prop}, ¬ P → (false = true ↔ P) := fun h => ⟨fun e => (by cases e), fun p => absurd p h⟩
 unfold Q18.f
 by_cases h1 : n < 1
 ·exact ⟨false, by simp [h1, jn], no fun h => by have := h.n0; omega⟩
 by_cases h2 : 24 < n
 ·exact ⟨false, by simp [h1, h2, jn], no fun h => by have := h.n1; omega⟩
 by_cases h3 : 8 < (x.length : Int)
 ·exact ⟨false, by simp [h1, h2, h3, jn], no fun h => by have := h.nx; omega⟩
 by_cases h4 : 8 < (z.length : Int)
 ·exact ⟨false, by simp [h1, h2, h3, h4, jn], no fun h => by have := h.nz; omega⟩
 by_cases h5 : 200 < (y.length : Int)
 ·exact ⟨false, by simp [h1, h2, h3, h4, h5, jn], no fun h => by have := h.ny; omega⟩
 simp only [if_neg h1, Q43, decide_eq_false h2, decide_eq_false h3, decide_eq_false h4, decide_eq_false h5, Bool.false_eq_true, if_false]
 rcases edges_iff n x y z (by omega) (by omega) with ⟨v, hr, hm, he⟩ | ⟨hr, he⟩
 ·rw [hr, Q43]
  rcases props_iff n x y z (by omega) hs with ⟨hp, hpp⟩ | ⟨hp, hpp⟩
  ·rw [hp, Q43]
   obtain ⟨b1, hb1, c1⟩ := names_iff x (by omega)
   obtain ⟨b2, hb2, c2⟩ := Q264 y (by omega)
   obtain ⟨b3, hb3, c3⟩ := Q272 x (by omega)
   obtain ⟨b4, hb4, c4⟩ := Q265 z (by omega)
   have h0 : (0 : Int) ≤ (x.length : Int) := by omega
   have hu : (W8 v = W8 (full8 x.length)) ↔ UsedS x.length y := ⟨fun h => (Q244 hm (by omega) he).1 (W8.inj h), fun h => by rw [(Q244 hm (by omega) he).2 h]⟩
   simp only [hb1, hb2, hb3, hb4, Option.bind_some, if_pos h0, full_run (show x.length ≤ 8 by omega)]
   by_cases k1 : b1 = true
   ·subst k1
    exact ⟨false, by simp [jn], no fun h => c1.1 rfl h.nm⟩
   ·have k1' : b1 = false := by simpa using k1
    subst k1'
    have hnm : ∀ s ∈ x, NameS s := Classical.not_not.1 fun h => by have := c1.2 h; cases this
    by_cases k2 : W8 v = W8 (full8 x.length)
    ·cases b2 with
     | false => exact ⟨false, by simp [jn, k2], no fun h => by have := c2.2 h.re; cases this⟩
     | true =>
      cases b3 with
      | false => exact ⟨false, by simp [jn, k2], no fun h => by have := c3.2 h.rx; cases this⟩
      | true =>
       cases b4 with
       | false => exact ⟨false, by simp [jn, k2], no fun h => by have := c4.2 h.rz; cases this⟩
       | true => exact ⟨true, by simp [jn, k2], by simp only [true_iff]; exact ⟨by omega, by omega, by omega, by omega, by omega, he, hpp, hnm, hu.1 k2, c2.1 rfl, c3.1 rfl, c4.1 rfl⟩⟩
    ·exact ⟨false, by simp [jn, k2], no fun h => k2 (hu.2 h.us)⟩
  ·rw [hp]
   exact ⟨false, rfl, no fun h => hpp h.pr⟩
 ·rw [hr]
  exact ⟨false, rfl, no fun h => he h.ed⟩
end Go.Bw
namespace Go.Bw
open Go Go.RowKit

theorem rise_ne {z : List Q1} (h : Rise (fun p q => BLt p.Name q.Name) z) {i j : Int} (h0 : 0 ≤ i) (h1 : i < j) (h2 : j < (z.length : Int)) : (gt z i).Name ≠ (gt z j).Name := by
 have key : ∀ k : Nat, i + k + 1 < (z.length : Int) → BLt (gt z i).Name (gt z (i + k + 1)).Name := fun k => by
  induction k with
  | zero =>
   intro hk
   have := h (i + 1) (by omega) (by omega)
   rw [show i + 1 - 1 = i from by omega] at this
   rw [show i + ((0 : Nat) : Int) + 1 = i + 1 from by omega]
   exact this
  | succ k ih =>
   intro hk
   have h3 := ih (by omega)
   have h4 := h (i + (k + 1 : Nat) + 1) (by omega) (by omega)
   rw [show i + ((k + 1 : Nat) : Int) + 1 - 1 = i + k + 1 from by omega] at h4
   exact Q130 h3 h4
 have := key (j - i - 1).toNat (by omega)
 rw [show i + ((j - i - 1).toNat : Int) + 1 = j from by omega] at this
 intro e
 rw [e] at this
 unfold BLt at this
 rw [Q138] at this
 omega
end Go.Bw
namespace Go.Bw
open Go Go.RowKit

def B8 (v : BitVec 8) : Int := (v.toNat : Int)
theorem B8.inj {u v : BitVec 8} (h : B8 u = B8 v) : u = v := by
 apply BitVec.eq_of_toNat_eq
 unfold B8 at h
 omega
theorem b8wrap {x : Int} (h0 : 0 ≤ x) (h1 : x < 256) : IntKind.u8.wrap x = x := by
 simp [IntKind.wrap, IntKind.bits, IntKind.signed]
 omega
theorem Q230 (v : BitVec 8) : BitVec.ofInt 8 (B8 v) = v := by
 unfold B8
 apply BitVec.eq_of_toNat_eq
 simp
theorem bor_B8 (u v : BitVec 8) : bor .u8 (B8 u) (B8 v) = B8 (u ||| v) := by
 show IntKind.u8.wrap ((BitVec.ofInt 8 (B8 u) ||| BitVec.ofInt 8 (B8 v)).toNat : Int) = _
 rw [Q230, Q230]
 have := (u ||| v).isLt
 exact b8wrap (by omega) (by omega)
theorem b8shl : ∀ k : Fin 8, Bw.shl .u8 1 (k.1 : Int) = B8 (BitVec.twoPow 8 k.1) := by decide +kernel
def mk8 (p : Nat → Bool) : Nat → BitVec 8
 | 0 => 0#8
 | m + 1 => if p m = true then mk8 p m ||| BitVec.twoPow 8 m else mk8 p m
theorem Q143 (p : Nat → Bool) : ∀ (m : Nat), m ≤ 8 → ∀ i, i < 8 → (mk8 p m).getLsbD i = (decide (i < m) && p i)
 | 0, _, i, _ => by simp [mk8]
 | m + 1, hm, i, hi => by
  have ih := Q143 p m (by omega) i hi
  unfold mk8
  by_cases hp : p m = true
  ·rw [if_pos hp, BitVec.getLsbD_or, ih, BitVec.getLsbD_twoPow]
   by_cases h : i = m
   ·subst h; simp [hp, hi]
   ·have e1 : decide (i < m + 1) = decide (i < m) := decide_eq_decide.2 (by omega)
    have e2 : decide (m = i) = false := decide_eq_false (fun q => h q.symm)
    rw [e1, e2]; simp
  ·rw [if_neg hp, ih]
   by_cases h : i = m
   ·subst h; simp [hp]
   ·have e1 : decide (i < m + 1) = decide (i < m) := decide_eq_decide.2 (by omega)
    rw [e1]
theorem mk8_iff {p q : Nat → Bool} {m : Nat} (hm : m ≤ 8) : mk8 p m = mk8 q m ↔ ∀ i, i < m → p i = q i := by
 constructor
 ·intro h i hi
  have := congrArg (fun z => z.getLsbD i) h
  simp only [Q143 _ m hm i (by omega), decide_eq_true hi, Bool.true_and] at this
  exact this
 ·intro h
  apply BitVec.eq_of_getLsbD_eq
  intro i hi
  rw [Q143 _ m hm i hi, Q143 _ m hm i hi]
  by_cases h1 : i < m
  ·rw [h i h1]
  ·rw [decide_eq_false h1]; rfl
section
variable {n : Int} {x : List Bs} {y : List Q0} {z : List Q1} {next : List (Q9 × Q5)} {holds : List (Bs × Q5)}
def Hs (z : List Q1) (i : Nat) (s : Int) : Prop := i < z.length ∧ ∃ p ∈ z, p.Name = (gt z i).Name ∧ s ∈ p.States
def Es (x : List Bs) (y : List Q0) (i : Nat) (s t : Int) : Prop := i < x.length ∧ Hit x y ⟨s, gt x i⟩ t
noncomputable def hoW (hh : Hx z holds) (a : Bs) : W4 := (hh a).choose
theorem hoW_rep (hh : Hx z holds) (a : Bs) : (hoW hh a).Rep (fun t => ∃ p ∈ z, p.Name = a ∧ t ∈ p.States) := (hh a).choose_spec.2
theorem hoW_run (hh : Hx z holds) (n : Int) (next : List (Q9 × Q5)) (a : Bs) : Q77.f n holds next a = some (hoW hh a).t := by
 have h := (hh a).choose_spec.1
 unfold Q77.f
 rw [h]
 rfl
noncomputable def hoP (hh : Hx z holds) (s : Int) (i : Nat) : Bool := (hoW hh (gt z i).Name).has s
theorem Q157 (hh : Hx z holds) {s : Int} (s0 : 0 ≤ s) (s1 : s < 256) {i : Nat} (hi : i < z.length) : hoP hh s i = true ↔ Hs z i s := by
 unfold hoP Hs
 rw [hoW_rep hh _ s s0 s1]
 exact ⟨fun h => ⟨hi, h⟩, fun h => h.2⟩
theorem mask_l0 (hh : Hx z holds) (hz : z.length ≤ 8) {s : Int} (s0 : 0 ≤ s) (s1 : s < 256) : ∀ (q i : Nat), i + q = z.length →
 iter (fun t_ : (Option Q2) × Int × Int => Q28.l0b s z t_.1 t_.2.1 t_.2.2) (some ⟨n, holds, next⟩, B8 (mk8 (hoP hh s) i), (i : Int)) = some (.inl (some ⟨n, holds, next⟩, B8 (mk8 (hoP hh s) z.length))) := fun q => by
 induction q with
 | zero =>
  intro i hi
  have : i = z.length := by omega
  subst this
  refine Q112 ?_
  simp only [Q28.l0b]
  rw [if_neg (by omega)]
  rfl
 | succ q ih =>
  intro i hi
  have hlt : (i : Int) < (z.length : Int) := by omega
  have hw : IntKind.i64.wrap ((i : Int) + 1) = ((i + 1 : Nat) : Int) := by rw [wrap64 (by omega) (by omega)]; omega
  have hsh := b8shl ⟨i, by omega⟩
  have hb : Q28.l0b s z (some ⟨n, holds, next⟩) (B8 (mk8 (hoP hh s) i)) (i : Int) = some (.inl (some ⟨n, holds, next⟩, B8 (mk8 (hoP hh s) (i + 1)), ((i + 1 : Nat) : Int))) := by
   unfold Q28.l0b
   rw [if_pos hlt, if_pos ⟨by omega, hlt⟩]
   simp only [Option.isNone_some, if_true, Option.getD_some, hoW_run hh, Option.bind_some, W4.t, has_run, decide_eq_true (show 0 ≤ s ∧ s < 256 from ⟨s0, s1⟩), Bool.true_and]
   have hp : (hoW hh (gt z (i : Int)).Name).has s = hoP hh s i := rfl
   rw [hp]
   by_cases hc : hoP hh s i = true
   ·rw [if_pos hc, if_pos (by omega), Q43, hw, hsh, bor_B8]
    have : mk8 (hoP hh s) (i + 1) = mk8 (hoP hh s) i ||| BitVec.twoPow 8 i := by rw [mk8, if_pos hc]
    rw [this]
    rfl
   ·rw [if_neg hc, Q43, hw]
    have : mk8 (hoP hh s) (i + 1) = mk8 (hoP hh s) i := by rw [mk8, if_neg hc]
    rw [this]
    rfl
  rw [Q113 (body := fun t_ : (Option Q2) × Int × Int => Q28.l0b s z t_.1 t_.2.1 t_.2.2) hb]
  exact ih (i + 1) (by omega)
theorem mask_run (hh : Hx z holds) (hz : z.length ≤ 8) {s : Int} (s0 : 0 ≤ s) (s1 : s < 256) (m : Int) (x' : List Bs) (y' : List Q0) :
 Q28.f s m x' y' z (some ⟨n, holds, next⟩) = some (some ⟨n, holds, next⟩, B8 (mk8 (hoP hh s) z.length)) := by
 have h := mask_l0 (n := n) (next := next) hh hz s0 s1 z.length 0 (by omega)
 have h' : Q28.l0 s z (some ⟨n, holds, next⟩) 0 0 = some (.inl (some ⟨n, holds, next⟩, B8 (mk8 (hoP hh s) z.length))) := h
 unfold Q28.f
 rw [h', Q43]
theorem num8_run (hh : Hx z holds) (hn0 : 0 ≤ n) (hn : n ≤ 24) (hz : z.length ≤ 8) (m : Int) (x' : List Bs) (y' : List Q0) :
 ∃ l', Q30.f n m x' y' z (some ⟨n, holds, next⟩) = some (l', some ⟨n, holds, next⟩) ∧ NumBy (fun s => B8 (mk8 (hoP hh s) z.length)) n l' := by
 have hlen : (((List.replicate n.toNat (0 : Int)).length : Nat) : Int) = n := by simp; omega
 obtain ⟨r, hr, l', mp, rfl, hi⟩ := Q85 (body := fun t_ : (List Int) × (List (Int × Int)) × (Option Q2) × Int => Q30.l0b n m x' y' z t_.1 t_.2.1 t_.2.2.1 t_.2.2.2)
  (fun s => s.2.2.1 = some ⟨n, holds, next⟩ ∧ 0 ≤ s.2.2.2 ∧ s.2.2.2 ≤ n ∧ NInv (fun s => B8 (mk8 (hoP hh s) z.length)) n s.2.2.2 s.1 s.2.1)
  (fun r => ∃ l' mp, r = .inl (l', mp, some ⟨n, holds, next⟩) ∧ NInv (fun s => B8 (mk8 (hoP hh s) z.length)) n n l' mp) (fun s => (n - s.2.2.2).toNat) (fun ⟨a, mp, o, i⟩ ⟨h1, h2, h3, h4⟩ => by
   dsimp only at h1 h2 h3 h4 ⊢
   subst h1
   by_cases hi : i < n
   ·right
    have hs := mask_run (n := n) (next := next) hh hz h2 (by omega) m x' y'
    have hw : IntKind.i64.wrap (i + 1) = i + 1 := wrap64 (by omega) (by omega)
    cases hm : mget mp (B8 (mk8 (hoP hh i) z.length)) with
    | some v =>
     refine ⟨(st a i v, mp, some ⟨n, holds, next⟩, i + 1), ?_, ⟨rfl, by dsimp only; omega, by dsimp only; omega, h4.hit h2 hi hm⟩, by dsimp only; omega⟩
     unfold Q30.l0b
     rw [hlen, if_pos hi, hs, Option.bind_some]
     simp only [hm, Option.isSome_some, if_true, Option.getD_some, if_pos (show (0 : Int) ≤ i ∧ i < n from ⟨h2, hi⟩), Q43, hw]
     rfl
    | none =>
     refine ⟨(st a i (mp.length : Int), mset mp (B8 (mk8 (hoP hh i) z.length)) (mp.length : Int), some ⟨n, holds, next⟩, i + 1), ?_, ⟨rfl, by dsimp only; omega, by dsimp only; omega, h4.new h2 hi hm⟩, by dsimp only; omega⟩
     unfold Q30.l0b
     rw [hlen, if_pos hi, hs, Option.bind_some]
     have hk2 : mget (mset mp (B8 (mk8 (hoP hh i) z.length)) (mp.length : Int)) (B8 (mk8 (hoP hh i) z.length)) = some (mp.length : Int) := by rw [Q120, if_pos rfl]
     simp only [hm, hk2, Option.isSome_none, Bool.false_eq_true, if_false, Option.getD_some, if_pos (show (0 : Int) ≤ i ∧ i < n from ⟨h2, hi⟩), Q43, hw]
     rfl
   ·left
    have hin : i = n := by omega
    subst hin
    refine ⟨.inl (a, mp, some ⟨i, holds, next⟩), ?_, a, mp, rfl, h4⟩
    unfold Q30.l0b
    rw [hlen, if_neg hi]
    rfl) (List.replicate n.toNat 0, [], some ⟨n, holds, next⟩, 0) ⟨rfl, Int.le_refl _, hn0, NInv.zero hlen⟩
 refine ⟨l', ?_, hi.fin⟩
 unfold Q30.f
 have hl0 : Q30.l0 n m x' y' z (List.replicate n.toNat 0) [] (some ⟨n, holds, next⟩) 0 = some (.inl (l', mp, some ⟨n, holds, next⟩)) := hr
 rw [if_pos (by omega), hl0, Q43]
end
end Go.Bw
namespace Go.Bw
open Go Go.RowKit

theorem equal_run {a b : List Int} (hn : a.length = b.length) (ha : (a.length : Int) ≤ 9223372036854775807) : Q32.f a b = some (decide (a = b)) := by
 unfold Q32.f
 rw [if_pos (by omega)]
 obtain ⟨r, hr, hq⟩ := Q85 (body := fun t_ : Int => Q32.l0b a b t_) (fun i => 0 ≤ i ∧ i ≤ (a.length : Int) ∧ ∀ j : Int, 0 ≤ j → j < i → gt a j = gt b j)
  (fun r => (r = .inl () ∧ a = b) ∨ (r = .inr false ∧ a ≠ b)) (fun i => ((a.length : Int) - i).toNat) (fun i ⟨h0, h1, h2⟩ => by
   unfold Q32.l0b
   by_cases hi : i < (a.length : Int)
   ·rw [if_pos hi, if_pos ⟨h0, hi⟩, if_pos ⟨h0, by omega⟩]
    by_cases he : gt a i = gt b i
    ·right
     rw [if_pos he, wrap64 (x := i + 1) (by omega) (by omega)]
     refine ⟨_, rfl, ⟨by omega, by omega, fun j j0 j1 => ?_⟩, by omega⟩
     by_cases hj : j = i
     ·subst hj; exact he
     ·exact h2 j j0 (by omega)
    ·left
     rw [if_neg he]
     exact ⟨_, rfl, .inr ⟨rfl, fun e => he (by rw [e])⟩⟩
   ·left
    rw [if_neg hi]
    exact ⟨_, rfl, .inl ⟨rfl, ext_gt hn fun k hk => h2 k (by omega) (by omega)⟩⟩) 0 ⟨Int.le_refl _, by omega, fun j h0 h1 => by omega⟩
 have hl : Q32.l0 a b 0 = some r := hr
 rcases hq with ⟨rfl, h⟩ | ⟨rfl, h⟩
 ·rw [hl, Q43, decide_eq_true h]
 ·rw [hl, decide_eq_false h]; rfl
theorem putc_rep {u : W4} {S : Int → Prop} (h : u.Rep S) {c : Int} (h0 : 0 ≤ c) (h1 : c < 256) : (putc u c).Rep (fun m => S m ∨ m = c) := by
 unfold putc
 rw [if_pos ⟨h0, h1⟩]
 exact W4.put_rep h h0 h1
theorem Q191 (g : Int → Int) : ∀ {L : List Int} {u : W4} {S : Int → Prop}, u.Rep S → (∀ t ∈ L, 0 ≤ g t ∧ g t < 256) → (L.foldl (fun u t => putc u (g t)) u).Rep (fun c => S c ∨ ∃ t ∈ L, g t = c)
 | [], u, S, h, _ => fun n n0 n1 => by rw [List.foldl_nil, h n n0 n1]; simp
 | t :: L, u, S, h, hg => by
  have h1 := hg t (.head _)
  have ih := Q191 g (L := L) (putc_rep h h1.1 h1.2) fun s hs => hg s (.tail _ hs)
  rw [List.foldl_cons]
  intro n n0 n1
  rw [ih n n0 n1]
  constructor
  ·rintro ((h | h) | ⟨s, a, b⟩)
   ·exact .inl h
   ·exact .inr ⟨t, .head _, h.symm⟩
   ·exact .inr ⟨s, .tail _ a, b⟩
  ·rintro (h | ⟨s, a, b⟩)
   ·exact .inl (.inl h)
   ·rcases List.mem_cons.1 a with rfl | a
    ·exact .inl (.inr b.symm)
    ·exact .inr ⟨s, a, b⟩
theorem s_inj {u v : W4} (h : u.s = v.s) : u = v := by
 unfold W4.s at h
 simp only [Q5.mk.injEq] at h
 obtain ⟨h1, h2, h3, h4⟩ := h
 cases u
 cases v
 simp only [W4.mk.injEq]
 exact ⟨Wd.inj h1, Wd.inj h2, Wd.inj h3, Wd.inj h4⟩
theorem sgK_iff {c d : Int} {f g : Int → W4} : sgK c f = sgK d g ↔ c = d ∧ ∀ j : Int, 0 ≤ j → j < 8 → f j = g j := by
 unfold sgK
 simp only [Q19.mk.injEq, A68.mk.injEq]
 constructor
 ·rintro ⟨h, a, b, c, d, e, f, g, i⟩
  refine ⟨h, fun j j0 j1 => ?_⟩
  have hj : j = 0 ∨ j = 1 ∨ j = 2 ∨ j = 3 ∨ j = 4 ∨ j = 5 ∨ j = 6 ∨ j = 7 := by omega
  rcases hj with rfl | rfl | rfl | rfl | rfl | rfl | rfl | rfl <;> exact s_inj (by assumption)
 ·rintro ⟨h, k⟩
  refine ⟨h, ?_, ?_, ?_, ?_, ?_, ?_, ?_, ?_⟩ <;> (rw [k _ (by decide) (by decide)])
section
variable {n : Int} {x : List Bs} {y : List Q0} {z : List Q1} {next : List (Q9 × Q5)} {holds : List (Bs × Q5)}
theorem Q110 (hn : n ≤ 24) (he : ∀ e ∈ y, EdgeIn n x.length e) : Within n (Es x y) := fun a s t ⟨_, e, h1, h2, h3, _⟩ => by
 have h2' : e.From = s := h2
 have := he e h1
 unfold EdgeIn at this
 omega
theorem Q145 (hx : Nx x y next) (hn : n ≤ 24) (he : ∀ e ∈ y, EdgeIn n x.length e) {l : List Int} (hl : ∀ t : Int, 0 ≤ t → t < n → 0 ≤ gt l t ∧ gt l t < 256) (s : Int) {i : Nat} (hi : i < x.length) :
 (sgF hx l s x.length i).Rep (fun c => ∃ t, Es x y i s t ∧ gt l t = c) := by
 have h := Q191 (gt l) (L := (nxW hx s (gt x i)).list) W4.z_rep (fun t ht => by have := nxW_in hx hn he ht; exact hl t this.1 this.2)
 unfold sgF
 rw [if_pos ⟨by omega, by omega⟩]
 intro c c0 c1
 rw [h c c0 c1]
 constructor
 ·rintro (h | ⟨t, a, b⟩)
  ·exact h.elim
  ·exact ⟨t, ⟨hi, ((Q167 (Q128 hx s (gt x i))).1 a).2.2⟩, b⟩
 ·rintro ⟨t, a, b⟩
  have := Q110 hn he i s t a
  exact .inr ⟨t, (Q167 (Q128 hx s (gt x i))).2 ⟨by omega, by omega, a.2⟩, b⟩
theorem canon_lt {l : List Int} (h : Canon l) : ∀ i : Int, 0 ≤ i → i < (l.length : Int) → 0 ≤ gt l i ∧ gt l i ≤ i := by
 have key : ∀ (k : Nat) (i : Int), i.toNat = k → 0 ≤ i → i < (l.length : Int) → gt l i ≤ i := fun k => by
  induction k using Nat.strongRecOn with
  | _ k ih =>
   intro i hk h0 h1
   by_cases hg : gt l i ≤ 0
   ·omega
   ·obtain ⟨j, j0, j1, j2⟩ := (h i h0 h1).2 (gt l i - 1) (by omega) (by omega)
    have := ih j.toNat (by omega) j rfl j0 (by omega)
    omega
 exact fun i h0 h1 => ⟨(h i h0 h1).1, key _ i rfl h0 h1⟩
structure CInv (n : Int) (x : List Bs) (y : List Q0) (z : List Q1) (l : List Int) : Prop where
 len : (l.length : Int) = n
 canon : Canon l
 coarse : ∀ s t : Int, 0 ≤ s → s < n → 0 ≤ t → t < n → Alike (Hs z) (Es x y) s t → gt l s = gt l t
 props : ∀ s t : Int, 0 ≤ s → s < n → 0 ≤ t → t < n → gt l s = gt l t → ∀ i, Hs z i s ↔ Hs z i t
theorem CInv.first (hh : Hx z holds) (hn : n ≤ 24) (hz : z.length ≤ 8) {l : List Int} (h : NumBy (fun s => B8 (mk8 (hoP hh s) z.length)) n l) : CInv n x y z l := by
 have key : ∀ s t : Int, 0 ≤ s → s < n → 0 ≤ t → t < n → (gt l s = gt l t ↔ ∀ i, Hs z i s ↔ Hs z i t) := fun s t s0 s1 t0 t1 => by
  rw [h.iff s t s0 s1 t0 t1]
  constructor
  ·intro e i
   by_cases hi : i < z.length
   ·have := (mk8_iff hz).1 (B8.inj e) i hi
    rw [← Q157 hh s0 (by omega) hi, ← Q157 hh t0 (by omega) hi, this]
   ·exact ⟨fun q => absurd q.1 hi, fun q => absurd q.1 hi⟩
  ·intro e
   refine congrArg B8 ((mk8_iff hz).2 fun i hi => ?_)
   rw [Bool.eq_iff_iff, Q157 hh s0 (by omega) hi, Q157 hh t0 (by omega) hi]
   exact e i
 exact ⟨h.len, h.canon, fun s t s0 s1 t0 t1 ha => (key s t s0 s1 t0 t1).2 (Alike.ks.hd s t ha), fun s t s0 s1 t0 t1 e => (key s t s0 s1 t0 t1).1 e⟩
theorem Q141 (hx : Nx x y next) (hn : n ≤ 24) (hl8 : x.length ≤ 8) (he : ∀ e ∈ y, EdgeIn n x.length e) {l l' : List Int} (c : CInv n x y z l) (h : NumBy (fun s => sgK (gt l s) (sgF hx l s x.length)) n l') {s t : Int} (s0 : 0 ≤ s) (s1 : s < n) (t0 : 0 ≤ t) (t1 : t < n) :
 gt l' s = gt l' t ↔ gt l s = gt l t ∧ ∀ i, ∀ d, (∃ s', Es x y i s s' ∧ gt l s' = d) ↔ (∃ t', Es x y i t t' ∧ gt l t' = d) := by
 have hlt : ∀ t : Int, 0 ≤ t → t < n → 0 ≤ gt l t ∧ gt l t < 256 := fun t t0 t1 => by have := canon_lt c.canon t t0 (by rw [c.len]; exact t1); omega
 rw [h.iff s t s0 s1 t0 t1, sgK_iff]
 refine and_congr Iff.rfl ?_
 constructor
 ·intro e i d
  by_cases hi : i < x.length
  ·have hr := Q145 hx hn he hlt s hi
   have hr' := Q145 hx hn he hlt t hi
   have := e i (by omega) (by omega)
   rw [this] at hr
   constructor
   ·rintro ⟨s', a, b⟩
    have w := Q110 hn he i s s' a
    have hd := hlt s' w.2.2.1 w.2.2.2
    rw [b] at hd
    exact (hr' d hd.1 hd.2).1 ((hr d hd.1 hd.2).2 ⟨s', a, b⟩)
   ·rintro ⟨t', a, b⟩
    have w := Q110 hn he i t t' a
    have hd := hlt t' w.2.2.1 w.2.2.2
    rw [b] at hd
    exact (hr d hd.1 hd.2).1 ((hr' d hd.1 hd.2).2 ⟨t', a, b⟩)
  ·exact ⟨fun ⟨_, a, _⟩ => absurd a.1 hi, fun ⟨_, a, _⟩ => absurd a.1 hi⟩
 ·intro e j j0 j1
  by_cases hj : j < (x.length : Int)
  ·have hr := Q145 hx hn he hlt s (i := j.toNat) (by omega)
   have hr' := Q145 hx hn he hlt t (i := j.toNat) (by omega)
   rw [show ((j.toNat : Nat) : Int) = j from by omega] at hr hr'
   exact hr.uniq hr' fun d _ _ => e j.toNat d
  ·unfold sgF
   rw [if_neg (by omega), if_neg (by omega)]
theorem CInv.step (hx : Nx x y next) (hn : n ≤ 24) (hl8 : x.length ≤ 8) (he : ∀ e ∈ y, EdgeIn n x.length e) {l l' : List Int} (c : CInv n x y z l) (h : NumBy (fun s => sgK (gt l s) (sgF hx l s x.length)) n l') : CInv n x y z l' := by
 refine ⟨h.len, h.canon, fun s t s0 s1 t0 t1 ha => ?_, fun s t s0 s1 t0 t1 e => c.props s t s0 s1 t0 t1 ((Q141 hx hn hl8 he c h s0 s1 t0 t1).1 e).1⟩
 refine (Q141 hx hn hl8 he c h s0 s1 t0 t1).2 ⟨c.coarse s t s0 s1 t0 t1 ha, fun i d => ⟨fun ⟨s', a, b⟩ => ?_, fun ⟨t', a, b⟩ => ?_⟩⟩
 ·obtain ⟨t', a', q⟩ := Alike.ks.fw s t ha i s' a
  have w := Q110 hn he i s s' a
  have w' := Q110 hn he i t t' a'
  exact ⟨t', a', by rw [← c.coarse s' t' w.2.2.1 w.2.2.2 w'.2.2.1 w'.2.2.2 q]; exact b⟩
 ·obtain ⟨s', a', q⟩ := Alike.ks.bw s t ha i t' a
  have w := Q110 hn he i t t' a
  have w' := Q110 hn he i s s' a'
  exact ⟨s', a', by rw [c.coarse s' t' w'.2.2.1 w'.2.2.2 w.2.2.1 w.2.2.2 q]; exact b⟩
theorem CInv.fin (hx : Nx x y next) (hn : n ≤ 24) (hl8 : x.length ≤ 8) (he : ∀ e ∈ y, EdgeIn n x.length e) {l : List Int} (c : CInv n x y z l) (h : NumBy (fun s => sgK (gt l s) (sgF hx l s x.length)) n l) : Cls n (Hs z) (Es x y) l :=
 cls_of (Q110 hn he) c.len c.canon c.coarse fun s t s0 s1 t0 t1 e => ⟨c.props s t s0 s1 t0 t1 e, fun i s' a => by
  obtain ⟨t', a', b⟩ := (((Q141 hx hn hl8 he c h s0 s1 t0 t1).1 e).2 i (gt l s')).1 ⟨s', a, rfl⟩
  exact ⟨t', a', b.symm⟩⟩
theorem loop_run (hx : Nx x y next) (hn0 : 0 ≤ n) (hn : n ≤ 24) (hl8 : x.length ≤ 8) (he : ∀ e ∈ y, EdgeIn n x.length e) {l : List Int} (c : CInv n x y z l) :
 ∃ l', Q26.l0 n x y z l (some ⟨n, holds, next⟩) = some (.inr l') ∧ Cls n (Hs z) (Es x y) l' := by
 obtain ⟨r, hr, l', rfl, h⟩ := Q85 (body := fun t_ : (List Int) × (Option Q2) => Q26.l0b n x y z t_.1 t_.2) (fun s => s.2 = some ⟨n, holds, next⟩ ∧ CInv n x y z s.1)
  (fun r => ∃ l', r = .inr l' ∧ Cls n (Hs z) (Es x y) l') (fun s => pairs n.toNat fun a b => decide (gt s.1 (a : Int) = gt s.1 (b : Int))) (fun ⟨l, o⟩ ⟨h1, c⟩ => by
   dsimp only at h1 c ⊢
   subst h1
   obtain ⟨l', hl', hb⟩ := num_run (holds := holds) hx hn0 hn hl8 he l c.len n y z
   have c' := c.step hx hn hl8 he hb
   have hlen : l'.length = l.length := by have := c.len; have := hb.len; omega
   unfold Q26.l0b
   rw [hl', Option.bind_some, equal_run hlen (by have := hb.len; omega), Option.bind_some]
   by_cases e : l' = l
   ·left
    subst e
    rw [if_pos (decide_eq_true rfl)]
    exact ⟨_, rfl, l', rfl, c.fin hx hn hl8 he hb⟩
   ·right
    rw [if_neg (by simpa using e)]
    refine ⟨_, rfl, ⟨rfl, c'⟩, ?_⟩
    dsimp only
    have hsub : ∀ a b : Int, 0 ≤ a → a < n → 0 ≤ b → b < n → gt l' a = gt l' b → gt l a = gt l b := fun a b a0 a1 b0 b1 q => ((Q141 hx hn hl8 he c hb a0 a1 b0 b1).1 q).1
    have hex : ∃ a b : Int, (0 ≤ a ∧ a < n) ∧ (0 ≤ b ∧ b < n) ∧ gt l a = gt l b ∧ gt l' a ≠ gt l' b := Classical.byContradiction fun hno => e (hb.canon.uniq c.canon hlen fun a b a0 a1 b0 b1 => by
     rw [hb.len] at a1 b1
     exact ⟨hsub a b a0 a1 b0 b1, fun q => Classical.byContradiction fun q' => hno ⟨a, b, ⟨a0, a1⟩, ⟨b0, b1⟩, q, q'⟩⟩)
    obtain ⟨a, b, ⟨a0, a1⟩, ⟨b0, b1⟩, q1, q2⟩ := hex
    refine pairs_lt (fun i j hi hj q => ?_) (a := a.toNat) (b := b.toNat) (by omega) (by omega) ?_ ?_
    ·rw [decide_eq_true_eq] at q ⊢
     exact hsub i j (by omega) (by omega) (by omega) (by omega) q
    ·rw [show ((a.toNat : Nat) : Int) = a from by omega, show ((b.toNat : Nat) : Int) = b from by omega]
     exact decide_eq_false q2
    ·rw [show ((a.toNat : Nat) : Int) = a from by omega, show ((b.toNat : Nat) : Int) = b from by omega]
     exact decide_eq_true q1) (l, some ⟨n, holds, next⟩) ⟨rfl, c⟩
 exact ⟨l', hr, h⟩
end
theorem Q205 (n : Int) (x : List Bs) (y : List Q0) (z : List Q1) (hs : ∀ p ∈ z, (p.States.length : Int) ≤ 9223372036854775807) :
 (¬ RightS n x y z ∧ Q11.f n x y z = some none ∧ Q26.f n x y z = some []) ∨ (RightS n x y z ∧ ∃ l, Q26.f n x y z = some l ∧ Cls n (Hs z) (Es x y) l) := by
 obtain ⟨b, hb, hf⟩ := Q226 n x y z hs
 cases b with
 | false =>
  left
  have hN : Q11.f n x y z = some none := by unfold Q11.f; rw [hb]; simp
  refine ⟨fun h => (by have := hf.2 h; cases this), hN, ?_⟩
  unfold Q26.f
  rw [hN]
  rfl
 | true =>
  right
  have R := hf.1 rfl
  obtain ⟨m0, hm0, hh⟩ := Q246 z (by have := R.nz; omega) hs (fun i j h0 h1 h2 => rise_ne R.rz h0 h1 h2)
  obtain ⟨m1, hm1, hx⟩ := l1_run n x y (by have := R.ny; omega) R.ed R.n1
  have hN : Q11.f n x y z = some (some ⟨n, m0, m1⟩) := by unfold Q11.f; rw [hb]; simp [hm0, hm1, jn]
  obtain ⟨l0, hl0, hb0⟩ := num8_run (n := n) (next := m1) hh (by have := R.n0; omega) R.n1 R.nz n x y
  obtain ⟨l, hl, hc⟩ := loop_run (holds := m0) hx (by have := R.n0; omega) R.n1 R.nx R.ed (CInv.first (x := x) (y := y) hh R.n1 R.nz hb0)
  refine ⟨R, l, ?_, hc⟩
  unfold Q26.f
  rw [hN, Option.bind_some]
  simp only [Option.isNone_some, Bool.false_eq_true, if_false]
  rw [hl0, Option.bind_some, hl]
  rfl
end Go.Bw
namespace Go.Bw
open Go Go.RowKit

theorem gt_map {α β : Type} [Inhabited α] [Inhabited β] {xs : List α} (f : α → β) {i : Int} (h0 : 0 ≤ i) (h1 : i < (xs.length : Int)) : gt (xs.map f) i = f (gt xs i) := by
 have h := Q100 h0 h1
 have h2 : (xs.map f)[i.toNat]? = some (f (gt xs i)) := by rw [List.getElem?_map, h]; rfl
 have := Q104 h2
 rwa [show ((i.toNat : Nat) : Int) = i from by omega] at this
theorem rise_mapp {α β : Type} [Inhabited α] [Inhabited β] {lt : α → α → Prop} {lt' : β → β → Prop} {a : List α} (f : α → β) (ha : Rise lt a) (hf : ∀ u v, lt u v → lt' (f u) (f v)) : Rise lt' (a.map f) := fun i i0 i1 => by
 rw [List.length_map] at i1
 rw [gt_map f (by omega) (by omega), gt_map f (by omega) i1]
 exact hf _ _ (ha i i0 i1)
theorem push_loop {α β ρ : Type} [Inhabited α] {L : List α} (f : α → β) {body : List β × Int → Option ((List β × Int) ⊕ (List β ⊕ ρ))} (hL : (L.length : Int) ≤ 1000000) (acc : List β)
 (h1 : ∀ (a : List β) (i : Int), 0 ≤ i → i < (L.length : Int) → a.length = acc.length + i.toNat → body (a, i) = some (.inl (a ++ [f (gt L i)], i + 1))) (h2 : ∀ (a : List β) (i : Int), ¬ i < (L.length : Int) → body (a, i) = some (.inr (.inl a))) :
 iter body (acc, 0) = some (.inl (acc ++ L.map f)) := by
 have key : ∀ (q : Nat) (i : Int), 0 ≤ i → (L.length : Int) - i = q → iter body (acc ++ (L.take i.toNat).map f, i) = some (.inl (acc ++ L.map f)) := fun q => by
  induction q with
  | zero =>
   intro i i0 iq
   rw [Q112 (h2 _ i (by omega)), List.take_of_length_le (by omega)]
  | succ q ih =>
   intro i i0 iq
   have hi : i < (L.length : Int) := by omega
   rw [Q113 (h1 _ i i0 hi (by simp; omega))]
   have := ih (i + 1) (by omega) (by omega)
   rw [show (i + 1).toNat = i.toNat + 1 from by omega, List.take_add_one, Q100 i0 hi] at this
   simpa using this
 have := key L.length 0 (by decide) (by omega)
 simpa using this
section
variable {n : Int} {x : List Bs} {y : List Q0} {z : List Q1}
def side (n s a : Int) : Int := if s < n then a else a + n
end
theorem Q209 {n : Int} (hn : n ≤ 24) {S : List Int} (h : StatesS n S) : S.length ≤ 24 := by
 have key : ∀ k : Nat, k < S.length → (k : Int) ≤ gt S k := fun k => by
  induction k with
  | zero => intro hk; exact (h.1 _ (Q99 (by omega) (by omega))).1
  | succ k ih =>
   intro hk
   have h1 := ih (by omega)
   have h2 := h.2 ((k + 1 : Nat) : Int) (by omega) (by omega)
   rw [show ((k + 1 : Nat) : Int) - 1 = k from by omega] at h2
   have h2' : gt S (k : Int) < gt S ((k + 1 : Nat) : Int) := h2
   omega
 by_cases h0 : S.length = 0
 ·omega
 ·have h1 := key (S.length - 1) (by omega)
  have h2 := (h.1 _ (Q99 (xs := S) (i := ((S.length - 1 : Nat) : Int)) (by omega) (by omega))).2
  omega
end Go.Bw
namespace Go.Bw
open Go Go.RowKit

theorem Q214 {α : Type} [DecidableEq α] : ∀ {a b : List α}, a.Nodup → (∀ x ∈ a, x ∈ b) → a.length ≤ b.length
 | [], b, _, _ => Nat.zero_le _
 | x :: a, b, hn, hs => by
  rw [List.nodup_cons] at hn
  have hx := hs x (.head _)
  have h1 := List.length_erase_of_mem hx
  have h2 : 0 < b.length := List.length_pos_of_mem hx
  have h3 := Q214 (a := a) (b := b.erase x) hn.2 fun y hy => (List.mem_erase_of_ne (fun e => hn.1 (by subst e; exact hy))).2 (hs y (.tail _ hy))
  rw [List.length_cons]
  omega
theorem rise_of {α : Type} [Inhabited α] {lt : α → α → Prop} {a : List α} (h : a.Pairwise lt) : Rise lt a := fun i i0 i1 => by
 have h1 := Q100 (xs := a) (i := i - 1) (by omega) (by omega)
 have h2 := Q100 (xs := a) (i := i) (by omega) i1
 rw [List.getElem?_eq_getElem (by omega)] at h1 h2
 have := List.pairwise_iff_getElem.1 h (i - 1).toNat i.toNat (by omega) (by omega) (by omega)
 rw [Option.some.inj h1, Option.some.inj h2] at this
 exact this
section
variable {n : Int} {x : List Bs} {y : List Q0} {z : List Q1} {next : List (Q9 × Q5)} {holds : List (Bs × Q5)}
noncomputable def tn6 (hx : Nx x y next) (n f a : Int) : List Q0 := ((List.range n.toNat).filter fun j => (nxW hx f (gt x a)).has (n - 1 - (j : Nat))).map fun j : Nat => ⟨n - 1 - f, a, (j : Int)⟩
noncomputable def tn5 (hx : Nx x y next) (n f : Int) : List Q0 := (List.range x.length).flatMap fun a : Nat => tn6 hx n f a
noncomputable def tn0 (hx : Nx x y next) (n : Int) : List Q0 := (List.range n.toNat).flatMap fun i : Nat => tn5 hx n (n - 1 - i)
theorem Q125 (hx : Nx x y next) (hn : 0 ≤ n ∧ n ≤ 24) {f a : Int} {e : Q0} : e ∈ tn6 hx n f a ↔ e.From = n - 1 - f ∧ e.Action = a ∧ 0 ≤ e.To ∧ e.To < n ∧ Hit x y ⟨f, gt x a⟩ (n - 1 - e.To) := by
 unfold tn6
 rw [List.mem_map]
 constructor
 ·rintro ⟨j, hj, rfl⟩
  rw [List.mem_filter, List.mem_range] at hj
  refine ⟨rfl, rfl, by dsimp only; omega, by dsimp only; omega, ?_⟩
  have hb : 0 ≤ n - 1 - (j : Int) ∧ n - 1 - (j : Int) < 256 := by omega
  exact (Q128 hx f (gt x a) _ hb.1 hb.2).1 hj.2
 ·rintro ⟨h1, h2, h3, h4, h5⟩
  refine ⟨e.To.toNat, List.mem_filter.2 ⟨List.mem_range.2 (by omega), ?_⟩, ?_⟩
  ·rw [show ((e.To.toNat : Nat) : Int) = e.To from by omega]
   exact (Q128 hx f (gt x a) _ (by omega) (by omega)).2 h5
  ·cases e
   simp only [Q0.mk.injEq] at *
   exact ⟨h1.symm, h2.symm, by omega⟩
theorem tn0_mem (hx : Nx x y next) (hn : 0 ≤ n ∧ n ≤ 24) {e : Q0} : e ∈ tn0 hx n ↔ (0 ≤ e.From ∧ e.From < n) ∧ (0 ≤ e.Action ∧ e.Action < (x.length : Int)) ∧ (0 ≤ e.To ∧ e.To < n) ∧ Hit x y ⟨n - 1 - e.From, gt x e.Action⟩ (n - 1 - e.To) := by
 unfold tn0 tn5
 rw [List.mem_flatMap]
 constructor
 ·rintro ⟨i, hi, h⟩
  rw [List.mem_flatMap] at h
  obtain ⟨a, ha, h⟩ := h
  obtain ⟨h1, h2, h3, h4, h5⟩ := (Q125 hx hn).1 h
  rw [List.mem_range] at hi ha
  have hf : n - 1 - (i : Int) = n - 1 - e.From := by omega
  rw [hf, ← h2] at h5
  exact ⟨by omega, by omega, ⟨h3, h4⟩, h5⟩
 ·rintro ⟨h1, h2, h3, h4⟩
  refine ⟨e.From.toNat, List.mem_range.2 (by omega), List.mem_flatMap.2 ⟨e.Action.toNat, List.mem_range.2 (by omega), (Q125 hx hn).2 ⟨by omega, by omega, h3.1, h3.2, ?_⟩⟩⟩
  rw [show ((e.From.toNat : Nat) : Int) = e.From from by omega, show ((e.Action.toNat : Nat) : Int) = e.Action from by omega]
  exact h4
theorem tn6_pw (hx : Nx x y next) (n f a : Int) : (tn6 hx n f a).Pairwise edgeLt := by
 unfold tn6
 rw [List.pairwise_map]
 refine ((List.pairwise_lt_range (n := n.toNat)).filter _).imp fun {i j} h => ?_
 unfold edgeLt
 dsimp only
 omega
theorem tn0_pw (hx : Nx x y next) (hn : 0 ≤ n ∧ n ≤ 24) : (tn0 hx n).Pairwise edgeLt := by
 have h5 : ∀ f, (tn5 hx n f).Pairwise edgeLt := fun f => by
  unfold tn5
  rw [List.pairwise_flatMap]
  refine ⟨fun a _ => tn6_pw hx n f a, (List.pairwise_lt_range (n := x.length)).imp fun {a b} h u hu v hv => ?_⟩
  have h1 := (Q125 hx hn).1 hu
  have h2 := (Q125 hx hn).1 hv
  unfold edgeLt
  omega
 unfold tn0
 rw [List.pairwise_flatMap]
 refine ⟨fun i _ => h5 _, (List.pairwise_lt_range (n := n.toNat)).imp fun {i j} h u hu v hv => ?_⟩
 unfold tn5 at hu hv
 obtain ⟨a, _, hu⟩ := List.mem_flatMap.1 hu
 obtain ⟨b, _, hv⟩ := List.mem_flatMap.1 hv
 have h1 := (Q125 hx hn).1 hu
 have h2 := (Q125 hx hn).1 hv
 unfold edgeLt
 omega
theorem Q195 (h : Rise BLt x) {i j : Int} (h0 : 0 ≤ i) (h1 : i < j) (h2 : j < (x.length : Int)) : gt x i ≠ gt x j := by
 have key : ∀ k : Nat, i + k + 1 < (x.length : Int) → BLt (gt x i) (gt x (i + k + 1)) := fun k => by
  induction k with
  | zero =>
   intro hk
   have := h (i + 1) (by omega) (by omega)
   rw [show i + 1 - 1 = i from by omega] at this
   rw [show i + ((0 : Nat) : Int) + 1 = i + 1 from by omega]
   exact this
  | succ k ih =>
   intro hk
   have h3 := ih (by omega)
   have h4 := h (i + (k + 1 : Nat) + 1) (by omega) (by omega)
   rw [show i + ((k + 1 : Nat) : Int) + 1 - 1 = i + k + 1 from by omega] at h4
   exact Q130 h3 h4
 have := key (j - i - 1).toNat (by omega)
 rw [show i + ((j - i - 1).toNat : Int) + 1 = j from by omega] at this
 intro e
 rw [e] at this
 unfold BLt at this
 rw [Q138] at this
 omega
theorem names_eq (h : Rise BLt x) {i j : Int} (h0 : 0 ≤ i) (h1 : i < (x.length : Int)) (h2 : 0 ≤ j) (h3 : j < (x.length : Int)) (e : gt x i = gt x j) : i = j := by
 rcases Int.lt_trichotomy i j with hl | hl | hl
 ·exact absurd e (Q195 h h0 hl h3)
 ·exact hl
 ·exact absurd e.symm (Q195 h h2 hl h1)
theorem name_any {s : Bs} (h : NameS s) : s ≠ [45] := fun e => by
 have h1 : 97 ≤ bat s 0 := h.2.2.1
 subst e
 exact absurd h1 (by decide)
theorem Q156 (R : RightS n x y z) {a s t : Int} (a0 : 0 ≤ a) (a1 : a < (x.length : Int)) : Hit x y ⟨s, gt x a⟩ t ↔ ⟨s, a, t⟩ ∈ y := by
 unfold Hit
 constructor
 ·rintro ⟨e, he, h1, h2, h3⟩
  have hE := R.ed e he
  unfold EdgeIn at hE
  have h4 : gt x e.Action = gt x a := h3.elim id fun q => absurd q (name_any (R.nm _ (Q99 a0 a1)))
  have h5 := names_eq R.rx (by omega) (by omega) a0 a1 h4
  have : (⟨s, a, t⟩ : Q0) = e := by cases e; simp only [Q0.mk.injEq] at *; exact ⟨h1.symm, h5.symm, h2.symm⟩
  rw [this]; exact he
 ·intro h
  exact ⟨_, h, rfl, rfl, .inl rfl⟩
def rvE (n : Int) (e : Q0) : Q0 := ⟨n - 1 - e.From, e.Action, n - 1 - e.To⟩
def rvP (n : Int) (p : Q1) : Q1 := ⟨p.Name, p.States.reverse.map fun s => n - 1 - s⟩
theorem Q153 (R : RightS n x y z) (hx : Nx x y next) {e : Q0} : e ∈ tn0 hx n ↔ rvE n e ∈ y := by
 have n0 := R.n0
 have n1 := R.n1
 rw [tn0_mem hx ⟨by omega, n1⟩]
 constructor
 ·rintro ⟨h1, h2, h3, h4⟩
  exact (Q156 R h2.1 h2.2).1 h4
 ·intro h
  have hE := R.ed _ h
  unfold EdgeIn rvE at hE
  dsimp only at hE
  refine ⟨by omega, by omega, by omega, (Q156 R (by omega) (by omega)).2 h⟩
theorem Q183 (R : RightS n x y z) (hx : Nx x y next) : RightS n x (tn0 hx n) (z.map (rvP n)) := by
 have n0 := R.n0
 have n1 := R.n1
 have hpw := tn0_pw hx (n := n) ⟨by omega, n1⟩
 refine ⟨n0, n1, R.nx, by rw [List.length_map]; exact R.nz, ?_, fun e he => ?_, fun p hp => ?_, R.nm, fun k k0 k1 => ?_, rise_of hpw, R.rx, rise_mapp (lt := fun p q => BLt p.Name q.Name) (rvP n) R.rz fun u v h => h⟩
 ·have hnd : ((tn0 hx n).map (rvE n)).Nodup := by
   unfold List.Nodup
   rw [List.pairwise_map]
   refine hpw.imp fun {u v} h e => ?_
   unfold rvE at e
   simp only [Q0.mk.injEq] at e
   unfold edgeLt at h
   omega
  have := Q214 hnd (b := y) fun e he => by
   obtain ⟨e0, he0, rfl⟩ := List.mem_map.1 he
   exact (Q153 R hx).1 he0
  rw [List.length_map] at this
  have := R.ny
  omega
 ·have hE := R.ed _ ((Q153 R hx).1 he)
  unfold EdgeIn rvE at hE
  unfold EdgeIn
  dsimp only at hE
  omega
 ·obtain ⟨p0, hp0, rfl⟩ := List.mem_map.1 hp
  have hP := R.pr p0 hp0
  refine ⟨hP.1, fun s hs => ?_, rise_of ?_⟩
  ·unfold rvP at hs
   obtain ⟨s0, hs0, rfl⟩ := List.mem_map.1 hs
   have := hP.2.1 s0 (by simpa using hs0)
   omega
  ·unfold rvP
   dsimp only
   rw [List.pairwise_map, List.pairwise_reverse]
   have hup : p0.States.Pairwise (· < ·) := by
    rw [List.pairwise_iff_getElem]
    intro i j hi hj hij
    have key : ∀ k : Nat, i + k + 1 < p0.States.length → gt p0.States (i : Int) < gt p0.States ((i + k + 1 : Nat) : Int) := fun k => by
     induction k with
     | zero =>
      intro hk
      have := hP.2.2 ((i + 0 + 1 : Nat) : Int) (by omega) (by omega)
      rwa [show ((i + 0 + 1 : Nat) : Int) - 1 = (i : Int) from by omega] at this
     | succ k ih =>
      intro hk
      have h1 := ih (by omega)
      have h2 := hP.2.2 ((i + (k + 1) + 1 : Nat) : Int) (by omega) (by omega)
      rw [show ((i + (k + 1) + 1 : Nat) : Int) - 1 = ((i + k + 1 : Nat) : Int) from by omega] at h2
      exact Int.lt_trans h1 h2
    have := key (j - i - 1) (by omega)
    rw [show i + (j - i - 1) + 1 = j from by omega, Q104 (List.getElem?_eq_getElem hi), Q104 (List.getElem?_eq_getElem hj)] at this
    exact this
   exact hup.imp fun {u v} h => by omega
 ·obtain ⟨e, he, hk⟩ := R.us k k0 k1
  refine ⟨rvE n e, (Q153 R hx).2 ?_, hk⟩
  have : rvE n (rvE n e) = e := by cases e; unfold rvE; simp only [Q0.mk.injEq]; exact ⟨by omega, trivial, by omega⟩
  rw [this]; exact he
theorem Q147 (R : RightS n x y z) {i : Nat} {s : Int} : Hs (z.map (rvP n)) i s ↔ Hs z i (n - 1 - s) := by
 unfold Hs
 rw [List.length_map]
 refine and_congr_right fun hi => ?_
 rw [gt_map (rvP n) (by omega) (by omega)]
 have hst : ∀ p, (s ∈ (rvP n p).States ↔ n - 1 - s ∈ p.States) := fun p => by
  unfold rvP
  dsimp only
  rw [List.mem_map]
  constructor
  ·rintro ⟨u, hu, rfl⟩
   rw [show n - 1 - (n - 1 - u) = u from by omega]
   simpa using hu
  ·exact fun h => ⟨n - 1 - s, by simpa using h, by omega⟩
 constructor
 ·rintro ⟨p, hp, e, hs⟩
  obtain ⟨p0, hp0, rfl⟩ := List.mem_map.1 hp
  exact ⟨p0, hp0, e, (hst p0).1 hs⟩
 ·rintro ⟨p, hp, e, hs⟩
  exact ⟨rvP n p, List.mem_map_of_mem hp, e, (hst p).2 hs⟩
theorem Q115 (R : RightS n x y z) (hx : Nx x y next) {i : Nat} {s t : Int} : Es x (tn0 hx n) i s t ↔ Es x y i (n - 1 - s) (n - 1 - t) := by
 unfold Es
 refine and_congr_right fun hi => ?_
 rw [Q156 (Q183 R hx) (by omega) (by omega), Q156 R (by omega) (by omega), Q153 R hx]
 rfl
theorem Q254 (R : RightS n x y z) (hx : Nx x y next) {s t : Int} : Alike (Hs (z.map (rvP n))) (Es x (tn0 hx n)) s t ↔ Alike (Hs z) (Es x y) (n - 1 - s) (n - 1 - t) := by
 have rr : ∀ u : Int, n - 1 - (n - 1 - u) = u := fun u => by omega
 constructor
 ·rintro ⟨Q, k, h⟩
  refine ⟨fun a b => Q (n - 1 - a) (n - 1 - b), ⟨fun a b q i => ?_, fun a b q i a' e => ?_, fun a b q i b' e => ?_⟩, by simpa only [rr] using h⟩
  ·have := k.hd _ _ q i
   rwa [Q147 R, Q147 R, rr, rr] at this
  ·obtain ⟨b', e', q'⟩ := k.fw _ _ q i (n - 1 - a') ((Q115 R hx).2 (by rw [rr, rr]; exact e))
   exact ⟨n - 1 - b', by have := (Q115 R hx).1 e'; rwa [rr] at this, by rw [rr]; exact q'⟩
  ·obtain ⟨a', e', q'⟩ := k.bw _ _ q i (n - 1 - b') ((Q115 R hx).2 (by rw [rr, rr]; exact e))
   exact ⟨n - 1 - a', by have := (Q115 R hx).1 e'; rwa [rr] at this, by rw [rr]; exact q'⟩
 ·rintro ⟨Q, k, h⟩
  refine ⟨fun a b => Q (n - 1 - a) (n - 1 - b), ⟨fun a b q i => ?_, fun a b q i a' e => ?_, fun a b q i b' e => ?_⟩, h⟩
  ·rw [Q147 R, Q147 R]; exact k.hd _ _ q i
  ·obtain ⟨b', e', q'⟩ := k.fw _ _ q i _ ((Q115 R hx).1 e)
   exact ⟨n - 1 - b', (Q115 R hx).2 (by rw [rr]; exact e'), by rw [rr]; exact q'⟩
  ·obtain ⟨a', e', q'⟩ := k.bw _ _ q i _ ((Q115 R hx).1 e)
   exact ⟨n - 1 - a', (Q115 R hx).2 (by rw [rr]; exact e'), by rw [rr]; exact q'⟩
end
end Go.Bw
namespace Go.Bw
open Go Go.RowKit

theorem Q148 {α : Type} {f : Nat → List α} {m : Nat} (h : ∀ i, (f i).length ≤ m) : ∀ k : Nat, ((List.range k).flatMap f).length ≤ k * m
 | 0 => by simp
 | k + 1 => by
  rw [List.range_succ, List.flatMap_append, List.length_append, Nat.succ_mul]
  have h1 := Q148 h k
  have h2 := h k
  have e : [k].flatMap f = f k := by simp
  rw [e]
  omega
theorem down_loop {α β ρ : Type} [Inhabited α] {L : List α} (f : α → β) {body : List β × Int → Option ((List β × Int) ⊕ (List β ⊕ ρ))} (acc : List β)
 (h1 : ∀ (a : List β) (k : Int), 0 ≤ k → k < (L.length : Int) → a.length ≤ acc.length + L.length → body (a, k) = some (.inl (a ++ [f (gt L k)], k - 1))) (h2 : ∀ (a : List β) (k : Int), k < 0 → body (a, k) = some (.inr (.inl a))) :
 iter body (acc, (L.length : Int) - 1) = some (.inl (acc ++ L.reverse.map f)) := by
 have key : ∀ (q : Nat) (a : List β), q ≤ L.length → a.length + q ≤ acc.length + L.length → iter body (a, (q : Int) - 1) = some (.inl (a ++ (L.take q).reverse.map f)) := fun q => by
  induction q with
  | zero =>
   intro a _ _
   rw [Q112 (h2 _ _ (by omega))]
   simp
  | succ q ih =>
   intro a hq ha
   have hlt : (q : Int) < (L.length : Int) := by omega
   have hb := h1 a (q : Int) (by omega) hlt (by omega)
   rw [show ((q + 1 : Nat) : Int) - 1 = (q : Int) from by omega, Q113 hb, ih _ (by omega) (by simp; omega), List.take_add_one, List.getElem?_eq_getElem (by omega)]
   have hg : gt L (q : Int) = L[q] := Q104 (List.getElem?_eq_getElem (by omega))
   rw [hg]
   simp only [Option.toList_some, List.reverse_append, List.reverse_singleton, List.singleton_append, List.map_cons, List.append_assoc]
 have := key L.length acc (Nat.le_refl _) (Nat.le_refl _)
 rwa [List.take_length] at this
section
variable {n : Int} {x : List Bs} {y : List Q0} {z : List Q1} {next : List (Q9 × Q5)} {holds : List (Bs × Q5)}
noncomputable def tn6k (hx : Nx x y next) (n f a : Int) (k : Nat) : List Q0 := ((List.range k).filter fun j => (nxW hx f (gt x a)).has (n - 1 - (j : Nat))).map fun j : Nat => ⟨n - 1 - f, a, (j : Int)⟩
theorem Q192 (hx : Nx x y next) (n f a : Int) (k : Nat) : (tn6k hx n f a k).length ≤ k := by
 unfold tn6k
 rw [List.length_map]
 exact Nat.le_trans (List.length_filter_le _ _) (by simp)
theorem t6_run (hx : Nx x y next) (hn : 0 ≤ n ∧ n ≤ 24) {f a : Int} (f0 : 0 ≤ f ∧ f < n) (a0 : 0 ≤ a) (a1 : a < (x.length : Int)) (acc : List Q0) (ha : acc.length ≤ 9000) :
 Q12.l6 n x f a acc (some ⟨n, holds, next⟩) (n - 1) = some (.inl (acc ++ tn6 hx n f a, some ⟨n, holds, next⟩)) := by
 have w1 : IntKind.i64.wrap (n - 1) = n - 1 := wrap64 (by omega) (by omega)
 have w2 : IntKind.i64.wrap (n - 1 - f) = n - 1 - f := wrap64 (by omega) (by omega)
 have key : ∀ (q k : Nat), k + q = n.toNat → iter (fun t_ : (List Q0) × (Option Q2) × Int => Q12.l6b n x f a t_.1 t_.2.1 t_.2.2) (acc ++ tn6k hx n f a k, some ⟨n, holds, next⟩, n - 1 - (k : Int)) = some (.inl (acc ++ tn6 hx n f a, some ⟨n, holds, next⟩)) := fun q => by
  induction q with
  | zero =>
   intro k hk
   have hkn : k = n.toNat := by omega
   refine Q112 ?_
   simp only [Q12.l6b]
   rw [if_neg (by omega), hkn]
   rfl
  | succ q ih =>
   intro k hk
   have h0 : 0 ≤ n - 1 - (k : Int) := by omega
   have w3 : IntKind.i64.wrap (n - 1 - (k : Int) - 1) = n - 1 - ((k + 1 : Nat) : Int) := by rw [wrap64 (by omega) (by omega)]; omega
   have w4 : IntKind.i64.wrap (n - 1 - (n - 1 - (k : Int))) = (k : Int) := by rw [wrap64 (by omega) (by omega)]; omega
   have hl := Q192 hx n f a k
   have hstep : tn6k hx n f a (k + 1) = tn6k hx n f a k ++ (if (nxW hx f (gt x a)).has (n - 1 - (k : Int)) = true then [⟨n - 1 - f, a, (k : Int)⟩] else []) := by
    unfold tn6k
    rw [List.range_succ, List.filter_append, List.map_append]
    by_cases hc : (nxW hx f (gt x a)).has (n - 1 - (k : Int)) = true
    ·rw [if_pos hc, List.filter_cons_of_pos (by simpa using hc)]; rfl
    ·rw [if_neg hc, List.filter_cons_of_neg (by simpa using hc)]; rfl
   have hb : Q12.l6b n x f a (acc ++ tn6k hx n f a k) (some ⟨n, holds, next⟩) (n - 1 - (k : Int)) = some (.inl (acc ++ tn6k hx n f a (k + 1), some ⟨n, holds, next⟩, n - 1 - ((k + 1 : Nat) : Int))) := by
    simp only [Q12.l6b]
    rw [if_pos h0, if_pos ⟨a0, a1⟩]
    simp only [Option.isNone_some, if_true, Option.getD_some, nxW_run hx, Option.bind_some, W4.t, has_run, decide_eq_true (show 0 ≤ n - 1 - (k : Int) ∧ n - 1 - (k : Int) < 256 by omega), Bool.true_and, w1, w2, w3, w4]
    rw [hstep]
    by_cases hc : (nxW hx f (gt x a)).has (n - 1 - (k : Int)) = true
    ·rw [if_pos hc, if_pos hc, if_pos (by simp; omega), Q43, List.append_assoc]
     rfl
    ·rw [if_neg hc, if_neg hc, Q43, List.append_nil]
     rfl
   rw [Q113 (body := fun t_ : (List Q0) × (Option Q2) × Int => Q12.l6b n x f a t_.1 t_.2.1 t_.2.2) hb]
   exact ih (k + 1) (by omega)
 have := key n.toNat 0 (by omega)
 have e0 : acc ++ tn6k hx n f a 0 = acc := by unfold tn6k; simp
 rw [e0, show n - 1 - ((0 : Nat) : Int) = n - 1 from by omega] at this
 exact this
theorem tn6_len (hx : Nx x y next) (hn : 0 ≤ n ∧ n ≤ 24) (f a : Int) : (tn6 hx n f a).length ≤ 24 := by
 have := Q192 hx n f a n.toNat
 have e : tn6 hx n f a = tn6k hx n f a n.toNat := rfl
 rw [e]
 omega
theorem t5_run (hx : Nx x y next) (hn : 0 ≤ n ∧ n ≤ 24) (hl8 : x.length ≤ 8) {f : Int} (f0 : 0 ≤ f ∧ f < n) (acc : List Q0) (ha : acc.length ≤ 8000) :
 Q12.l5 n x f acc (some ⟨n, holds, next⟩) 0 = some (.inl (acc ++ tn5 hx n f, some ⟨n, holds, next⟩)) := by
 have w1 : IntKind.i64.wrap (n - 1) = n - 1 := wrap64 (by omega) (by omega)
 have key : ∀ (q k : Nat), k + q = x.length → iter (fun t_ : (List Q0) × (Option Q2) × Int => Q12.l5b n x f t_.1 t_.2.1 t_.2.2) (acc ++ (List.range k).flatMap (fun a : Nat => tn6 hx n f a), some ⟨n, holds, next⟩, (k : Int)) = some (.inl (acc ++ tn5 hx n f, some ⟨n, holds, next⟩)) := fun q => by
  induction q with
  | zero =>
   intro k hk
   have hkn : k = x.length := by omega
   refine Q112 ?_
   simp only [Q12.l5b]
   rw [if_neg (by omega), hkn]
   rfl
  | succ q ih =>
   intro k hk
   have hfm := Q148 (f := fun a : Nat => tn6 hx n f a) (fun i => tn6_len hx hn f i) k
   have h6 := t6_run (holds := holds) hx hn f0 (a := (k : Int)) (by omega) (by omega) (acc ++ (List.range k).flatMap (fun a : Nat => tn6 hx n f a)) (by rw [List.length_append]; omega)
   have hb : Q12.l5b n x f (acc ++ (List.range k).flatMap (fun a : Nat => tn6 hx n f a)) (some ⟨n, holds, next⟩) (k : Int) = some (.inl (acc ++ (List.range (k + 1)).flatMap (fun a : Nat => tn6 hx n f a), some ⟨n, holds, next⟩, ((k + 1 : Nat) : Int))) := by
    simp only [Q12.l5b]
    rw [if_pos (by omega), w1, h6, Q43, wrap64 (x := (k : Int) + 1) (by omega) (by omega), List.range_succ, List.flatMap_append, ← List.append_assoc]
    simp
    rfl
   rw [Q113 (body := fun t_ : (List Q0) × (Option Q2) × Int => Q12.l5b n x f t_.1 t_.2.1 t_.2.2) hb]
   exact ih (k + 1) (by omega)
 have := key x.length 0 (by omega)
 rw [List.range_zero, List.flatMap_nil, List.append_nil] at this
 exact this
theorem tn5_len (hx : Nx x y next) (hn : 0 ≤ n ∧ n ≤ 24) (hl8 : x.length ≤ 8) (f : Int) : (tn5 hx n f).length ≤ 192 := by
 have := Q148 (f := fun a : Nat => tn6 hx n f a) (fun i => tn6_len hx hn f i) x.length
 have e : tn5 hx n f = (List.range x.length).flatMap (fun a : Nat => tn6 hx n f a) := rfl
 rw [e]
 omega
theorem t0_run (hx : Nx x y next) (hn : 0 ≤ n ∧ n ≤ 24) (hl8 : x.length ≤ 8) : Q12.l0 n x [] (some ⟨n, holds, next⟩) (n - 1) = some (.inl (tn0 hx n, some ⟨n, holds, next⟩)) := by
 have key : ∀ (q k : Nat), k + q = n.toNat → iter (fun t_ : (List Q0) × (Option Q2) × Int => Q12.l0b n x t_.1 t_.2.1 t_.2.2) ((List.range k).flatMap (fun i : Nat => tn5 hx n (n - 1 - i)), some ⟨n, holds, next⟩, n - 1 - (k : Int)) = some (.inl (tn0 hx n, some ⟨n, holds, next⟩)) := fun q => by
  induction q with
  | zero =>
   intro k hk
   have hkn : k = n.toNat := by omega
   refine Q112 ?_
   simp only [Q12.l0b]
   rw [if_neg (by omega), hkn]
   rfl
  | succ q ih =>
   intro k hk
   have hfm := Q148 (f := fun i : Nat => tn5 hx n (n - 1 - i)) (fun i => tn5_len hx hn hl8 _) k
   have h5 := t5_run (holds := holds) hx hn hl8 (f := n - 1 - (k : Int)) (by omega) ((List.range k).flatMap (fun i : Nat => tn5 hx n (n - 1 - i))) (by omega)
   have hb : Q12.l0b n x ((List.range k).flatMap (fun i : Nat => tn5 hx n (n - 1 - i))) (some ⟨n, holds, next⟩) (n - 1 - (k : Int)) = some (.inl ((List.range (k + 1)).flatMap (fun i : Nat => tn5 hx n (n - 1 - i)), some ⟨n, holds, next⟩, n - 1 - ((k + 1 : Nat) : Int))) := by
    simp only [Q12.l0b]
    have hw : IntKind.i64.wrap (n - 1 - (k : Int) - 1) = n - 1 - ((k + 1 : Nat) : Int) := by rw [wrap64 (by omega) (by omega)]; omega
    rw [if_pos (by omega), h5, Q43, hw, List.range_succ, List.flatMap_append]
    simp
    rfl
   rw [Q113 (body := fun t_ : (List Q0) × (Option Q2) × Int => Q12.l0b n x t_.1 t_.2.1 t_.2.2) hb]
   exact ih (k + 1) (by omega)
 have := key n.toNat 0 (by omega)
 rw [List.range_zero, List.flatMap_nil, show n - 1 - ((0 : Nat) : Int) = n - 1 from by omega] at this
 exact this
theorem t1_run (R : RightS n x y z) : Q12.l1 n z [] 0 = some (.inl (z.map (rvP n))) := by
 have n0 := R.n0
 have n1 := R.n1
 have nz := R.nz
 have w1 : IntKind.i64.wrap (n - 1) = n - 1 := wrap64 (by omega) (by omega)
 have h := push_loop (L := z) (β := Q1) (ρ := Bool) (rvP n) (body := fun t_ : (List Q1) × Int => Q12.l1b n z t_.1 t_.2) (by omega) [] (fun a i i0 i1 ha => by
  have hP := (R.pr _ (Q99 i0 i1)).2
  have hfew := Q209 n1 hP
  have e4 : Q12.l4 n z i [] (((gt z i).States.length : Int) - 1) = some (.inl ((gt z i).States.reverse.map fun s => n - 1 - s)) := by
   have h := down_loop (L := (gt z i).States) (β := Int) (ρ := ((List Q1) × Int) ⊕ (((List Q1)) ⊕ (Bool))) (fun s => n - 1 - s) (body := fun t_ : (List Int) × Int => Q12.l4b n z i t_.1 t_.2) [] (fun b k k0 k1 hb => by
    have hm := hP.1 _ (Q99 k0 k1)
    simp only [Q12.l4b]
    rw [if_pos k0, if_pos ⟨k0, k1⟩, w1, if_pos (by simp; simp at hb; omega), wrap64 (x := n - 1 - gt (gt z i).States k) (by omega) (by omega), wrap64 (x := k - 1) (by omega) (by omega)]
    rfl) (fun b k hk => by simp only [Q12.l4b]; rw [if_neg (by omega)]; rfl)
   rw [List.nil_append] at h
   exact h
  simp only [Q12.l1b]
  rw [if_pos i1, if_pos ⟨i0, i1⟩, wrap64 (x := ((gt z i).States.length : Int) - 1) (by omega) (by omega), e4, Q43, if_pos (by simp at ha; omega), wrap64 (x := i + 1) (by omega) (by omega)]
  rfl) (fun a i hi => by simp only [Q12.l1b]; rw [if_neg hi]; rfl)
 rw [List.nil_append] at h
 exact h
end
theorem Q255 (n : Int) (x : List Bs) (y : List Q0) (z : List Q1) (hs : ∀ p ∈ z, (p.States.length : Int) ≤ 9223372036854775807) : Q12.f n x y z = some true := by
 unfold Q12.f
 rw [Q260, Option.bind_some]
 rcases Q205 n x y z hs with ⟨_, hN, _⟩ | ⟨R, c, hc, C⟩
 ·simp [hN, jn]
 ·have n0 := R.n0
  have n1 := R.n1
  obtain ⟨m0, hm0, hh⟩ := Q246 z (by have := R.nz; omega) hs (fun i j h0 h1 h2 => rise_ne R.rz h0 h1 h2)
  obtain ⟨m1, hm1, hx⟩ := l1_run n x y (by have := R.ny; omega) R.ed R.n1
  obtain ⟨b, hb, hf⟩ := Q226 n x y z hs
  have hbt : b = true := hf.2 R
  subst hbt
  have hN : Q11.f n x y z = some (some ⟨n, m0, m1⟩) := by unfold Q11.f; rw [hb]; simp [hm0, hm1, jn]
  have R2 := Q183 R hx
  have hs2 : ∀ p ∈ z.map (rvP n), (p.States.length : Int) ≤ 9223372036854775807 := fun p hp => by
   have := Q209 R2.n1 (R2.pr p hp).2
   omega
  rcases Q205 n x (tn0 hx n) (z.map (rvP n)) hs2 with ⟨hno, _⟩ | ⟨_, d, hd, D⟩
  ·exact absurd R2 hno
  have hl := C.len
  have hl2 := D.len
  have w1 : IntKind.i64.wrap (n - 1) = n - 1 := wrap64 (by omega) (by omega)
  have e3 : ∀ u : Int, 0 ≤ u → u < n → Q12.l3 n c d u 0 = some (.inl ()) := fun u u0 u1 => by
   obtain ⟨r, hr, rfl⟩ := Q85 (body := fun t_ : Int => Q12.l3b n c d u t_) (fun i => 0 ≤ i) (fun r => r = .inl ()) (fun i => (u - i).toNat) (fun i i0 => by
    simp only [Q12.l3b]
    by_cases hi : i < u
    ·right
     have hw : IntKind.i64.wrap (n - 1 - u) = n - 1 - u := wrap64 (by omega) (by omega)
     have hw2 : IntKind.i64.wrap (n - 1 - i) = n - 1 - i := wrap64 (by omega) (by omega)
     have hq : (decide (gt c u = gt c i) == decide (gt d (n - 1 - u) = gt d (n - 1 - i))) = true := by
      rw [beq_iff_eq, decide_eq_decide, C.iff u i u0 u1 i0 (by omega), D.iff (n - 1 - u) (n - 1 - i) (by omega) (by omega) (by omega) (by omega), Q254 R hx, show n - 1 - (n - 1 - u) = u from by omega, show n - 1 - (n - 1 - i) = i from by omega]
     rw [if_pos hi, if_pos ⟨u0, by omega⟩, if_pos ⟨i0, by omega⟩, w1, hw, hw2, if_pos ⟨by omega, by omega⟩, if_pos ⟨by omega, by omega⟩, if_pos hq, wrap64 (x := i + 1) (by omega) (by omega)]
     exact ⟨_, rfl, by omega, by omega⟩
    ·left; rw [if_neg hi]; exact ⟨_, rfl, rfl⟩) 0 (Int.le_refl _)
   exact hr
  have e2 : Q12.l2 n c d 0 = some (.inl ()) := by
   obtain ⟨r, hr, rfl⟩ := Q85 (body := fun t_ : Int => Q12.l2b n c d t_) (fun i => 0 ≤ i) (fun r => r = .inl ()) (fun i => (n - i).toNat) (fun i i0 => by
    simp only [Q12.l2b]
    by_cases hi : i < n
    ·right
     rw [if_pos hi, e3 i i0 hi, Q43, wrap64 (x := i + 1) (by omega) (by omega)]
     exact ⟨_, rfl, by omega, by omega⟩
    ·left; rw [if_neg hi]; exact ⟨_, rfl, rfl⟩) 0 (Int.le_refl _)
   exact hr
  simp only [hN, Option.bind_some, if_true, Option.isNone_some, Q43, Bool.false_eq_true, if_false, w1, t0_run (holds := m0) hx ⟨by omega, n1⟩ R.nx, t1_run R, hc, hd, if_pos hl, decide_eq_true hl2, Bool.not_true, e2]
end Go.Bw
namespace Go.Bw
open Go Go.RowKit Go.Proofs Go.ChangeShapes Go.WideShapes
abbrev laid64 : List (String × DataW Unit) := [("math/bits.deBruijn64tab", Go.Proofs.YtbkooifhcekpmaaGreatDoor.Rows.laid_math_bits_deBruijn64tab)]
theorem Q259 {H : Type} : (Go.Proofs.YtbkooifhcekpmaaGreatDoor.Rows.laid_math_bits_deBruijn64tab : DataW H) = .agg (Tryz.gtab0.map fun a => .lit (.int .u8 a)) := rfl
theorem Q275 : Tryz.prog.globalNamed "math/bits.deBruijn64tab" = some 0 := by kernel_rfl
theorem Q274 : (Tryz.prog.globals[0]?).map (·.type) = some 138 := by kernel_rfl
theorem Q283 (os : Os) (args : Array Value) : laidMetH Tryz.prog laid64 ((World.doorLaid Tryz.prog 31 os).forCall (fun _ _ => 0) ⟨#[], args, []⟩).memory :=
 laidMetH_of_parts3 (fuel := 8) (laidMet_of_run' 8 (by kernel_rfl) (by kernel_rfl)) (by kernel_rfl) (by kernel_rfl)
theorem laid64_rd {W : World} (h : laidMetH Tryz.prog laid64 W) : RdS (Fl.int .u8).rep (wh W) (some ⟨0, 0, none⟩) Tryz.gtab0 := by
 rw [MakeChecks.laidMetH_plain _ _ _ (by kernel_rfl)] at h
 obtain ⟨ps, ⟨g0, t0, cs0, f0, p0, q0, hg0, ht0, hv0, hd0, _, _⟩, _, _⟩ := h
 obtain rfl := Option.some.inj (Q275.symm.trans hg0)
 obtain rfl := Option.some.inj (Q274.symm.trans ht0)
 obtain ⟨xs, m1, rfl, hx1, hlen, hn3, hel⟩ := DataW.trod_array Tryz.underlying138 hd0
 have hx : xs.map (·.1) = Tryz.gtab0.map fun a => (DataW.lit (.int .u8 a) : DataW Unit) := by
  have h1 := (Prod.mk.inj hx1).1
  have h2 := (Q259 (H := Unit)).symm.trans h1
  exact (DataW.agg.inj h2).symm
 refine Q263 fun i hi => ?_
 have hgl : Tryz.gtab0.length = 64 := rfl
 have hi' : i < 64 := by omega
 have he := hel i hi'
 have hxi : i < xs.length := by omega
 rw [List.getElem?_eq_getElem hxi] at he
 obtain ⟨k, e1, e2, _⟩ := DataW.trod_int Tryz.underlying5 he
 obtain ⟨v, hv⟩ : ∃ v, Tryz.gtab0[i]? = some v := ⟨_, List.getElem?_eq_getElem hi⟩
 have h2 := congrArg (fun l => l[i]?) hx
 simp only [List.getElem?_map, List.getElem?_eq_getElem hxi, hv, Option.map_some, Option.some.injEq] at h2
 rw [e2] at h2
 have hk : k = v := by simpa using h2
 have c5 : Tryz.prog.cellsOf 5 = 1 := by kernel_rfl
 rw [c5, Nat.mul_one] at e1
 rw [World.var?_cell hg0 hv0 i]
 have hc : (cs0.toList.drop i)[0]? = some (.int .u8 k) := by
  cases hd : cs0.toList.drop i with
  | nil => rw [hd] at e1; simp at e1
  | cons a r => rw [hd] at e1; simp at e1; simp [e1]
 rw [List.getElem?_drop, Nat.add_zero] at hc
 rw [List.getD_eq_getElem?_getD, hv, Option.getD_some, ← hk]
 simpa using hc
end Go.Bw
namespace Go.Bw
open Go Go.RowKit
theorem Q278 {n : Int} {x : List Bs} {y : List Q0} {z : List Q1} (h : (Lit.int .i64 n).wf = true ∧ (x.length ≤ maxLen ∧ ∀ s ∈ x, s.length ≤ maxLen) ∧ (y.length ≤ maxLen ∧ ∀ e ∈ y, ((Lit.int .i64 e.From).wf = true ∧ (Lit.int .i64 e.Action).wf = true ∧ (Lit.int .i64 e.To).wf = true)) ∧
 (z.length ≤ maxLen ∧ ∀ p ∈ z, (p.Name.length ≤ maxLen ∧ (p.States.length ≤ maxLen ∧ ∀ s ∈ p.States, (Lit.int .i64 s).wf = true)))) :
 Q12.f n x y z = some true := Q255 n x y z fun p hp => by
 have h1 := (h.2.2.2.2 p hp).2.1
 have h2 : maxLen ≤ 9223372036854775807 := by decide
 omega
end Go.Bw
