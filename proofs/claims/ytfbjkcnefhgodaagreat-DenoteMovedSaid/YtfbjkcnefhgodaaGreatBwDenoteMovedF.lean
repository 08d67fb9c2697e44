/- DenoteMoved, part 6: walks and plain laws. Conditions: none. -/
import Derived.Test.YtfbjkcnefhgodaaGreatBwDenoteMovedE
set_option linter.unusedVariables false
set_option linter.unusedSimpArgs false
set_option linter.unusedSectionVars false
set_option maxRecDepth 100000
set_option maxHeartbeats 2000000
namespace Go.Bw
open Go Go.RowKit

noncomputable def itk {σ ρ : Type} (B : σ → Option (σ ⊕ ρ)) : σ ⊕ ρ → Option ρ
 | .inl s' => iter B s'
 | .inr r => some r
theorem Q238 {σ ρ : Type} (B : σ → Option (σ ⊕ ρ)) (s : σ) : iter B s = (B s).bind (itk B) := by
 rw [Q67]
 congr 1
theorem Ev.iter_step {σ ρ : Type} {B : Nat → σ → Option (σ ⊕ ρ)} {s s' : σ} {r : ρ} (h : Ev (fun k => B k s) (.inl s')) (g : Ev (fun k => iter (B k) s') r) : Ev (fun k => iter (B k) s) r := by
 rw [show (fun k => iter (B k) s) = fun k => (B k s).bind (itk (B k)) from funext fun k => Q238 _ _]
 exact Ev.bind (F := fun k => itk (B k)) h g
theorem Ev.iter_end {σ ρ : Type} {B : Nat → σ → Option (σ ⊕ ρ)} {s : σ} {r : ρ} (h : Ev (fun k => B k s) (.inr r)) : Ev (fun k => iter (B k) s) r := by
 rw [show (fun k => iter (B k) s) = fun k => (B k s).bind (itk (B k)) from funext fun k => Q238 _ _]
 exact Ev.bind (F := fun k => itk (B k)) h (Ev.const r)
def Ws (v : BitVec 64) (S : PS) : Prop := ∀ i : Nat, i < 64 → (v.getLsbD i = true ↔ S i)
theorem Ws.eq {v : BitVec 64} {S T : PS} {n : Int} (hn : n ≤ 64) (hu : Ws v S) (hv : Ws v T) (hS : ∀ s, S s → 0 ≤ s ∧ s < n) (hT : ∀ s, T s → 0 ≤ s ∧ s < n) : S = T := by
 funext s
 apply propext
 by_cases h : 0 ≤ s ∧ s < n
 ·have a := hu s.toNat (by omega)
  have b := hv s.toNat (by omega)
  rw [show ((s.toNat : Nat) : Int) = s by omega] at a b
  exact a.symm.trans b
 ·exact ⟨fun x => absurd (hS s x) h, fun x => absurd (hT s x) h⟩
theorem Ws.and {u v : BitVec 64} {S T : PS} (hu : Ws u S) (hv : Ws v T) : Ws (u &&& v) (fun s => S s ∧ T s) := fun i hi => by
 rw [BitVec.getLsbD_and, Bool.and_eq_true, hu i hi, hv i hi]
theorem Ws.or {u v : BitVec 64} {S T : PS} (hu : Ws u S) (hv : Ws v T) : Ws (u ||| v) (fun s => S s ∨ T s) := fun i hi => by
 rw [BitVec.getLsbD_or, Bool.or_eq_true, hu i hi, hv i hi]
theorem Ws.minus {u v : BitVec 64} {S T : PS} (hu : Ws u S) (hv : Ws v T) : Ws (u &&& ~~~ v) (fun s => S s ∧ ¬ T s) := fun i hi => by
 rw [BitVec.getLsbD_and, Bool.and_eq_true, hu i hi, BitVec.getLsbD_not]
 show _ ↔ S i ∧ ¬ T i
 rw [← hv i hi]
 simp [hi]
theorem Ws.none : Ws 0#64 (fun _ => False) := fun i hi => by simp
theorem Ws.lt {u v : BitVec 64} {S T : PS} (hu : Ws u S) (hv : Ws v T) (h : Le S T) (hne : u ≠ v) : u.toNat < v.toNat := by
 have e : u = u &&& v := BitVec.eq_of_getLsbD_eq fun i hi => by
  rw [BitVec.getLsbD_and, Bool.eq_iff_iff, Bool.and_eq_true]
  exact ⟨fun x => ⟨x, (hv i hi).2 (h _ ((hu i hi).1 x))⟩, fun x => x.1⟩
 have h1 : u.toNat ≤ v.toNat := by
  rw [e, BitVec.toNat_and]
  exact Nat.and_le_right
 have h2 : u.toNat ≠ v.toNat := fun h => hne (BitVec.eq_of_toNat_eq h)
 omega
theorem W4.word {u : W4} {S : PS} {n : Int} (hn : n ≤ 64) (h : u.Rep S) (hS : ∀ s, S s → 0 ≤ s ∧ s < n) : u = ⟨u.a, 0#64, 0#64, 0#64⟩ ∧ Ws u.a S := by
 have ha : Ws u.a S := fun i hi => by
  have := h i (by omega) (by omega)
  rw [← this]
  unfold W4.has W4.sel
  rw [if_pos (by omega), show ((i : Int) % 64).toNat = i by omega]
 refine ⟨W4.ext4 fun m m0 m1 => ?_, ha⟩
 by_cases hm : m / 64 = 0
 ·unfold W4.has W4.sel
  rw [if_pos hm, if_pos hm]
 ·have e : u.has m = false := by
   cases hh : u.has m with
   | false => rfl
   | true => have := hS m ((h m m0 m1).1 hh); omega
  rw [e]
  unfold W4.has W4.sel
  rw [if_neg hm]
  split
  ·simp
  ·split <;> simp
structure Tb (n : Int) (holds : List (Bs × Q2)) (next : List (Q7 × Q2)) (C : Ctx) : Prop where
 N : C.N = n
 n0 : 1 ≤ n
 n1 : n ≤ 24
 ok : C.Ok
 ho : ∀ a, ∃ v, Q93.f n holds next a = some (Wd v, 0, 0, 0) ∧ Ws v (C.holds a)
 ba : ∀ a v S, Ws v S → Le S C.all → ∃ u, Q37.f n holds next (Wd v) 0 0 0 a = some (Wd u, 0, 0, 0) ∧ Ws u (fun s => ∃ t, C.edge a s t ∧ S t)
abbrev S1 (v : BitVec 64) : Q2 := ⟨Wd v, 0, 0, 0⟩
theorem band00 : band .u64 0 0 = 0 := rfl
theorem bor00 : bor .u64 0 0 = 0 := rfl
theorem bandnot00 : bandnot .u64 0 0 = 0 := rfl
section
variable {n : Int} {holds : List (Bs × Q2)} {next : List (Q7 × Q2)} {C : Ctx} {f : List Q1} {to : List Int} {al : BitVec 64}
theorem Q232 (v : BitVec 64) (e : List Q2) : Q63.f n holds next f to (Wd al) 0 0 0 e (Wd v) 0 0 0 = some (Wd (al &&& ~~~ v), 0, 0, 0) := by
 unfold Q63.f Q137.f
 rw [Q295, bandnot00]
 rfl
def EnvD (C : Ctx) (e : List Q2) (E : Int → PS) (m : Int) : Prop := ∃ v, gt e m = S1 v ∧ Ws v (E m) ∧ Le (E m) C.all
abbrev NdR (C : Ctx) (n' : Int) (f : List Q1) (e : List Q2) (D : PS) (e' : List Q2) (v : BitVec 64) : Prop :=
 e'.length = f.length ∧ (∀ m, n' < m → gt e' m = gt e m) ∧ Ws v D
def jnk {σ ρ : Type} (g : σ → Option ρ) : σ ⊕ ρ → Option ρ
 | .inl s => g s
 | .inr o => some o
theorem jn_jnk {σ ρ : Type} (x : Option (σ ⊕ ρ)) (g : σ → Option ρ) : jn x g = x.bind (jnk g) := by
 rcases x with _ | _ | _ <;> rfl
theorem Ev.jn_inr {σ ρ : Type} {N : Nat → Option (σ ⊕ ρ)} {g : σ → Option ρ} {r : ρ} (h : Ev N (.inr r)) : Ev (fun k => jn (N k) g) r := by
 rw [show (fun k => jn (N k) g) = fun k => (N k).bind (jnk g) from funext fun k => jn_jnk _ _]
 exact Ev.bind (F := fun _ => jnk g) h (Ev.const r)
theorem Q261 {m : Int} (h0 : 0 ≤ m) (h1 : m < (f.length : Int)) (ha : (gt f m).A = m - 1) {e : List Q2} {F : PS → PS} {J : PS → Prop} (μ : BitVec 64 → Nat)
 (hround : ∀ e1 u S, e1.length = f.length → (∀ q, m < q → gt e1 q = gt e q) → gt e1 m = S1 u → Ws u S → J S →
  ∃ e' v, Ev (fun k => Q11.n k n holds next f to (Wd al) 0 0 0 e1 (m - 1)) (e', Wd v, 0, 0, 0) ∧ e'.length = f.length ∧ (∀ q, m - 1 < q → gt e' q = gt e1 q) ∧ Ws v (F S))
 (hJ : ∀ S u v, J S → Ws u S → Ws v (F S) → v ≠ u → J (F S) ∧ μ v < μ u) : ∀ (d : Nat) (e1 : List Q2) (u : BitVec 64) (S : PS), μ u ≤ d → e1.length = f.length → (∀ q, m < q → gt e1 q = gt e q) → gt e1 m = S1 u → Ws u S → J S →
  ∃ e' v S', Ev (fun k => iter (fun t_ : List Q2 => Q21.l0b n holds next f to (Wd al) 0 0 0 m (Q11.n k) t_) e1) (.inr (e', Wd v, 0, 0, 0)) ∧ e'.length = f.length ∧ (∀ q, m < q → gt e' q = gt e q) ∧ Ws v (F S') ∧ Ws v S' ∧ J S' := by
 intro d
 induction d with
 | zero =>
  intro e1 u S hd hl hfr hg hu hS
  obtain ⟨e', v, hev, hl', hfr', hv⟩ := hround e1 u S hl hfr hg hu hS
  have huv : v = u := Classical.byContradiction fun h => by have := (hJ S u v hS hu hv h).2; omega
  refine ⟨e', v, S, Ev.iter_end ?_, hl', fun q hq => (hfr' q (by omega)).trans (hfr q hq), hv, by rw [huv]; exact hu, hS⟩
  simp only [Q21.l0b, if_pos (And.intro h0 h1), ha]
  refine Ev.bind hev ?_
  have hgm := (hfr' m (by omega)).trans hg
  simp only [hgm, huv]
  simp only [decide_true, Bool.and_self, if_true]
  exact Ev.const _
 | succ d ihd =>
  intro e1 u S hd hl hfr hg hu hS
  obtain ⟨e', v, hev, hl', hfr', hv⟩ := hround e1 u S hl hfr hg hu hS
  have hgm := (hfr' m (by omega)).trans hg
  by_cases huv : v = u
  ·refine ⟨e', v, S, Ev.iter_end ?_, hl', fun q hq => (hfr' q (by omega)).trans (hfr q hq), hv, by rw [huv]; exact hu, hS⟩
   simp only [Q21.l0b, if_pos (And.intro h0 h1), ha]
   refine Ev.bind hev ?_
   simp only [hgm, huv]
   simp only [decide_true, Bool.and_self, if_true]
   exact Ev.const _
  ·obtain ⟨hJ', hμ⟩ := hJ S u v hS hu hv huv
   obtain ⟨e2, v2, S2, g1, g2, g3, g4, g5, g6⟩ := ihd (st e' m (S1 v)) v (F S) (by omega) (by rw [Q105, hl']) (fun q hq => by
    rw [Q87 h0 (by omega) (by omega), if_neg (by omega)]
    exact (hfr' q (by omega)).trans (hfr q hq)) (by rw [Q87 h0 (by omega) h0, if_pos rfl]) hv hJ'
   refine ⟨e2, v2, S2, Ev.iter_step (s' := st e' m (S1 v)) ?_ g1, g2, g3, g4, g5, g6⟩
   simp only [Q21.l0b, if_pos (And.intro h0 h1), ha]
   refine Ev.bind hev ?_
   have hne : ¬ Wd v = Wd u := fun h => huv (Wd.inj h)
   simp only [hgm, decide_eq_false hne, Bool.false_and, Bool.false_eq_true, if_false]
   exact Ev.const _
theorem node_run (T : Tb n holds next C) (hal : Ws al C.all) {sc : List (Int × Bool)} {l m : Int} (b : Bd f to sc l m) : to.length = f.length → (∀ p ∈ sc, m < p.1 ∧ p.1 < (f.length : Int)) → ∀ (e : List Q2) (E : Int → PS), e.length = f.length → (∀ p ∈ sc, EnvD C e E p.1) →
 ∃ e' v, Ev (fun k => Q11.n k n holds next f to (Wd al) 0 0 0 e m) (e', Wd v, 0, 0, 0) ∧ NdR C m f e (den C f to m E) e' v := by
 induction b with
 | @var sc m h0 h1 hk hs =>
  intro hto hsc e E he hE
  obtain ⟨v, hv, hw, _⟩ := hE _ hs
  have := hsc _ hs
  dsimp only at hv hw this
  refine ⟨e, v, Ev.succ rfl (fun k => rfl) ?_, he, fun _ _ => rfl, by rw [Q161 hk]; exact hw⟩
  have hg : Q11.g = Q11.g := rfl
  show Ev (fun k => Q11.g _ _ n holds next f to (Wd al) 0 0 0 e m) _
  simp only [Q11.g, if_pos (And.intro h0 h1), hk, hto, he, if_pos (show 0 ≤ gt to m ∧ gt to m < (f.length : Int) by omega), hv]
  simp
  exact Ev.const _
 | @leaf sc m h0 h1 hk h4 =>
  intro hto hsc e E he hE
  obtain ⟨v, hv, hw⟩ := T.ho (gt f m).Name
  rcases hk with hk | hk | hk | hk | hk
  ·refine ⟨e, al, Ev.succ rfl (fun k => rfl) ?_, he, fun _ _ => rfl, by rw [Q165 hk]; exact hal⟩
   show Ev (fun k => Q11.g _ _ n holds next f to (Wd al) 0 0 0 e m) _
   simp only [Q11.g, if_pos (And.intro h0 h1), hk]
   exact Ev.const _
  ·refine ⟨e, 0#64, Ev.succ rfl (fun k => rfl) ?_, he, fun _ _ => rfl, by rw [Q162 hk]; exact Ws.none⟩
   show Ev (fun k => Q11.g _ _ n holds next f to (Wd al) 0 0 0 e m) _
   simp only [Q11.g, if_pos (And.intro h0 h1), hk]
   exact Ev.const _
  ·refine ⟨e, v, Ev.succ rfl (fun k => rfl) ?_, he, fun _ _ => rfl, by rw [Q166 hk]; exact hw⟩
   show Ev (fun k => Q11.g _ _ n holds next f to (Wd al) 0 0 0 e m) _
   simp only [Q11.g, if_pos (And.intro h0 h1), hk, hv, Option.bind_some]
   exact Ev.const _
  ·exact absurd hk h4
  ·refine ⟨e, al &&& ~~~ v, Ev.succ rfl (fun k => rfl) ?_, he, fun _ _ => rfl, by rw [Q173 hk]; exact hal.minus hw⟩
   show Ev (fun k => Q11.g _ _ n holds next f to (Wd al) 0 0 0 e m) _
   simp only [Q11.g, if_pos (And.intro h0 h1), hk, hv, Option.bind_some, Q232]
   exact Ev.const _
 | @not sc l m h1 hk ha s ih =>
  intro hto hsc e E he hE
  have := s.le
  obtain ⟨e', v, hev, hl, hfr, hw⟩ := ih hto (fun p hp => by
   obtain ⟨q, hq, rfl⟩ := List.mem_map.1 hp
   have := hsc q hq
   dsimp only; omega) e E he (fun p hp => by
   obtain ⟨q, hq, rfl⟩ := List.mem_map.1 hp
   exact hE q hq)
  refine ⟨e', al &&& ~~~ v, Ev.succ rfl (fun k => rfl) ?_, hl, fun q hq => hfr q (by omega), by rw [Q175 hk ha (by omega)]; exact hal.minus hw⟩
  show Ev (fun k => Q11.g (Q11.n k) (Q21.n k) n holds next f to (Wd al) 0 0 0 e m) _
  simp only [Q11.g, if_pos (And.intro (show 0 ≤ m by omega) h1), hk, ha]
  refine Ev.bind hev ?_
  simp only [Q232, Option.bind_some]
  exact Ev.const _
 | @modal sc l m h1 hk ha s ih =>
  intro hto hsc e E he hE
  have := s.le
  obtain ⟨e', v, hev, hl, hfr, hw⟩ := ih hto (fun p hp => by have := hsc p hp; omega) e E he hE
  have hin : Le (den C f to (m - 1) E) C.all := Q177 T.ok s (fun p hp => by obtain ⟨v, _, _, h⟩ := hE p hp; exact h) (fun p hp => by have := hsc p hp; omega)
  rcases hk with hk | hk
  ·obtain ⟨u, hu, hwu⟩ := T.ba (gt f m).Name v _ hw hin
   refine ⟨e', u, Ev.succ rfl (fun k => rfl) ?_, hl, fun q hq => hfr q (by omega), by rw [Q160 hk ha (by omega)]; exact hwu⟩
   show Ev (fun k => Q11.g (Q11.n k) (Q21.n k) n holds next f to (Wd al) 0 0 0 e m) _
   simp only [Q11.g, if_pos (And.intro (show 0 ≤ m by omega) h1), hk, ha]
   refine Ev.bind hev ?_
   simp only [hu, Option.bind_some]
   exact Ev.const _
  ·obtain ⟨u, hu, hwu⟩ := T.ba (gt f m).Name (al &&& ~~~ v) _ (hal.minus hw) (fun s h => h.1)
   refine ⟨e', al &&& ~~~ u, Ev.succ rfl (fun k => rfl) ?_, hl, fun q hq => hfr q (by omega), ?_⟩
   ·show Ev (fun k => Q11.g (Q11.n k) (Q21.n k) n holds next f to (Wd al) 0 0 0 e m) _
    simp only [Q11.g, if_pos (And.intro (show 0 ≤ m by omega) h1), hk, ha]
    refine Ev.bind hev ?_
    simp only [Q232, hu, Option.bind_some]
    exact Ev.const _
   ·rw [Q172 hk ha (by omega)]
    have h := hal.minus hwu
    have e1 : (fun s => C.all s ∧ ∀ t, C.edge (gt f m).Name s t → den C f to (m - 1) E t) = fun s => C.all s ∧ ¬ ∃ t, C.edge (gt f m).Name s t ∧ C.all t ∧ ¬ den C f to (m - 1) E t := by
     funext s
     refine propext (and_congr_right fun _ => ?_)
     constructor
     ·rintro h ⟨t, h1, _, h3⟩; exact h3 (h t h1)
     ·intro h t ht
      exact Classical.byContradiction fun hn => h ⟨t, ht, (T.ok.edge _ _ _ ht).2, hn⟩
    rw [e1]
    exact h
 | @fix sc l m h1 hk ha s ih =>
  intro hto hsc e E he hE
  have sl := s.le
  have n1 := T.n1
  have hall : ∀ S : PS, Le S C.all → ∀ s, S s → 0 ≤ s ∧ s < n := fun S h s hs => by have := h s hs; unfold Ctx.all at this; rw [T.N] at this; exact this
  have hsc' : ∀ p ∈ (m, true) :: sc, m - 1 < p.1 ∧ p.1 < (f.length : Int) := fun p hp => by
   rcases List.mem_cons.1 hp with rfl | hp
   ·dsimp only; omega
   ·have := hsc p hp; omega
  have hround : ∀ e1 u S, e1.length = f.length → (∀ q, m < q → gt e1 q = gt e q) → gt e1 m = S1 u → Ws u S → Le S C.all →
   ∃ e' v, Ev (fun k => Q11.n k n holds next f to (Wd al) 0 0 0 e1 (m - 1)) (e', Wd v, 0, 0, 0) ∧ e'.length = f.length ∧ (∀ q, m - 1 < q → gt e' q = gt e1 q) ∧ Ws v (den C f to (m - 1) (updE E m S)) := fun e1 u S hl hfr hg hu hS =>
   ih hto hsc' e1 (updE E m S) hl (fun p hp => by
    rcases List.mem_cons.1 hp with rfl | hp
    ·exact ⟨u, hg, by dsimp only; rw [Q139]; exact hu, by dsimp only; rw [Q139]; exact hS⟩
    ·have := hsc p hp
     obtain ⟨v, h1, h2, h3⟩ := hE p hp
     refine ⟨v, (hfr _ (by omega)).trans h1, ?_, ?_⟩ <;> rw [Q129 (by omega)] <;> assumption)
  have hin : ∀ S, Le S C.all → Le (den C f to (m - 1) (updE E m S)) C.all := fun S hS => Q177 T.ok s (fun p hp => by
   rcases List.mem_cons.1 hp with rfl | hp
   ·rw [Q139]; exact hS
   ·have := hsc p hp
    rw [Q129 (by omega)]
    obtain ⟨v, _, _, h⟩ := hE p hp
    exact h) (fun p hp => (hsc' p hp).1)
  have hmono : ∀ S S', Le S S' → Le (den C f to (m - 1) (updE E m S)) (den C f to (m - 1) (updE E m S')) := fun S S' h =>
   Q215 s (fun p hp => (hsc' p hp).1) ((Way.rfl sc E).cons (fun p hp => by have := hsc p hp; omega) h)
  have hup : ∀ q, m < q → gt (st e m (S1 0#64)) q = gt e q := fun q hq => by rw [Q87 (by omega) (by omega) (by omega), if_neg (by omega)]
  have hup' : ∀ q, m < q → gt (st e m (S1 al)) q = gt e q := fun q hq => by rw [Q87 (by omega) (by omega) (by omega), if_neg (by omega)]
  have hfix : ∀ (a b : BitVec 64) (D : PS) (e' : List Q2), Ev (fun k => iter (fun t_ : List Q2 => Q21.l0b n holds next f to (Wd al) 0 0 0 m (Q11.n k) t_) (st e m (S1 a))) (.inr (e', Wd b, 0, 0, 0)) →
   Ev (fun k => Q21.n k n holds next f to (Wd al) 0 0 0 e m (Wd a) 0 0 0) (e', Wd b, 0, 0, 0) := fun a b D e' h => by
   refine Ev.succ rfl (fun k => rfl) ?_
   show Ev (fun k => Q21.g (Q11.n k) (Q21.n k) n holds next f to (Wd al) 0 0 0 e m (Wd a) 0 0 0) _
   simp only [Q21.g, Q21.l0, he, if_pos (And.intro (show 0 ≤ m by omega) h1)]
   exact Ev.jn_inr h
  rcases hk with hk | hk
  ·obtain ⟨e', v, S', g1, g2, g3, g4, g5, g6, g7, g8⟩ := Q261 (n := n) (holds := holds) (next := next) (to := to) (al := al) (show 0 ≤ m by omega) h1 ha (e := e) (F := fun S => den C f to (m - 1) (updE E m S)) (J := fun S => Le S C.all ∧ Le S (den C f to (m - 1) (updE E m S)) ∧ Le S (lfp fun S => den C f to (m - 1) (updE E m S))) (fun u => 2 ^ 64 - u.toNat)
    (fun e1 u S hl hfr hg hu hS => hround e1 u S hl hfr hg hu hS.1) (fun S u v hS hu hv hne => ⟨⟨hin S hS.1, hmono _ _ hS.2.1, fun s hs => Q233 hmono s (hmono _ _ hS.2.2 s hs)⟩, by
     have := hu.lt hv hS.2.1 (fun h => hne h.symm)
     have := v.isLt
     omega⟩) (2 ^ 64) (st e m (S1 0#64)) 0#64 (fun _ => False) (by omega) (by rw [Q105, he]) hup (by rw [Q87 (by omega) (by omega) (by omega), if_pos rfl]) Ws.none ⟨fun _ h => h.elim, fun _ h => h.elim, fun _ h => h.elim⟩
   have hSF : S' = den C f to (m - 1) (updE E m S') := Ws.eq (n := n) (by omega) g5 g4 (hall _ g6) (hall _ (hin _ g6))
   refine ⟨e', v, Ev.succ rfl (fun k => rfl) ?_, g2, g3, ?_⟩
   ·show Ev (fun k => Q11.g (Q11.n k) (Q21.n k) n holds next f to (Wd al) 0 0 0 e m) _
    simp only [Q11.g, if_pos (And.intro (show 0 ≤ m by omega) h1), hk]
    exact Ev.bind (hfix 0#64 v (fun _ => False) e' g1) (Ev.const _)
   ·rw [Q157 hk ha (by omega)]
    have : S' = lfp fun S => den C f to (m - 1) (updE E m S) := funext fun s => propext ⟨g8 s, fun h => h S' fun t ht => by rw [hSF]; exact ht⟩
    rw [← this]
    exact g5
  ·obtain ⟨e', v, S', g1, g2, g3, g4, g5, g6, g7, g8⟩ := Q261 (n := n) (holds := holds) (next := next) (to := to) (al := al) (show 0 ≤ m by omega) h1 ha (e := e) (F := fun S => den C f to (m - 1) (updE E m S)) (J := fun S => Le S C.all ∧ Le (den C f to (m - 1) (updE E m S)) S ∧ Le (gfp fun S s => C.all s ∧ den C f to (m - 1) (updE E m S) s) S) (fun u => u.toNat)
    (fun e1 u S hl hfr hg hu hS => hround e1 u S hl hfr hg hu hS.1) (fun S u v hS hu hv hne => ⟨⟨hin S hS.1, hmono _ _ hS.2.1, fun s hs => hmono _ _ hS.2.2 s (gfp_post (F := fun S s => C.all s ∧ den C f to (m - 1) (updE E m S) s) (fun S S' h s hs => ⟨hs.1, hmono _ _ h s hs.2⟩) s hs).2⟩, hv.lt hu hS.2.1 hne⟩) al.toNat (st e m (S1 al)) al C.all (by omega) (by rw [Q105, he]) hup' (by rw [Q87 (by omega) (by omega) (by omega), if_pos rfl]) hal ⟨fun _ h => h, hin _ (fun _ h => h), fun s ⟨S, hS, hs⟩ => (hS s hs).1⟩
   have hSF : S' = den C f to (m - 1) (updE E m S') := Ws.eq (n := n) (by omega) g5 g4 (hall _ g6) (hall _ (hin _ g6))
   refine ⟨e', v, Ev.succ rfl (fun k => rfl) ?_, g2, g3, ?_⟩
   ·show Ev (fun k => Q11.g (Q11.n k) (Q21.n k) n holds next f to (Wd al) 0 0 0 e m) _
    simp only [Q11.g, if_pos (And.intro (show 0 ≤ m by omega) h1), hk]
    exact Ev.bind (hfix al v (fun _ => False) e' g1) (Ev.const _)
   ·rw [Q168 hk ha (by omega)]
    have : S' = gfp fun S s => C.all s ∧ den C f to (m - 1) (updE E m S) s := funext fun s => propext ⟨fun h => ⟨S', fun t ht => ⟨g6 t ht, by rw [← hSF]; exact ht⟩, h⟩, g8 s⟩
    rw [← this]
    exact g5
 | @two sc l q m h1 hk ha hb s t ih1 ih2 =>
  intro hto hsc e E he hE
  have := s.le
  have := t.le
  obtain ⟨e1, v1, hev1, hl1, hfr1, hw1⟩ := ih1 hto (fun p hp => by have := hsc p hp; omega) e E he hE
  obtain ⟨e2, v2, hev2, hl2, hfr2, hw2⟩ := ih2 hto (fun p hp => by have := hsc p hp; omega) e1 E hl1 (fun p hp => by
   obtain ⟨v, h1, h2⟩ := hE p hp
   have := hsc p hp
   exact ⟨v, (hfr1 _ (by omega)).trans h1, h2⟩)
  have hfr : ∀ w, m < w → gt e2 w = gt e w := fun w hw => (hfr2 w (by omega)).trans (hfr1 w (by omega))
  rcases hk with hk | hk
  ·refine ⟨e2, v1 &&& v2, Ev.succ rfl (fun k => rfl) ?_, hl2, hfr, by rw [Q171 hk ha hb (by omega) (by omega)]; exact hw1.and hw2⟩
   show Ev (fun k => Q11.g (Q11.n k) (Q21.n k) n holds next f to (Wd al) 0 0 0 e m) _
   simp only [Q11.g, if_pos (And.intro (show 0 ≤ m by omega) h1), hk, ha, hb]
   refine Ev.bind hev1 (Ev.bind hev2 ?_)
   simp only [Q101.f, Q186, band00, Option.bind_some]
   exact Ev.const _
  ·refine ⟨e2, v1 ||| v2, Ev.succ rfl (fun k => rfl) ?_, hl2, hfr, by rw [Q167 hk ha hb (by omega) (by omega)]; exact hw1.or hw2⟩
   show Ev (fun k => Q11.g (Q11.n k) (Q21.n k) n holds next f to (Wd al) 0 0 0 e m) _
   simp only [Q11.g, if_pos (And.intro (show 0 ≤ m by omega) h1), hk, ha, hb]
   refine Ev.bind hev1 (Ev.bind hev2 ?_)
   simp only [Q131.f, bor_wd, bor00, Option.bind_some]
   exact Ev.const _
end
end Go.Bw
namespace Go.Bw
open Go Go.RowKit

def wide (x : Q1) : Q1 := if x.Kind = 12 then { x with Kind := 3 } else x
theorem Q156 (x : Q1) : (wide x).A = x.A ∧ (wide x).B = x.B ∧ (wide x).Name = x.Name := by
 unfold wide
 split <;> exact ⟨rfl, rfl, rfl⟩
theorem Q135 {x : Q1} {k : Int} (h : k ≠ 3) (hk : (wide x).Kind = k) : x.Kind = k := by
 unfold wide at hk
 split at hk
 ·exact absurd hk.symm h
 ·exact hk
theorem Bd.wide_of {f g : List Q1} {to : List Int} (hl : g.length = f.length) (hg : ∀ m, 0 ≤ m → m < (f.length : Int) → gt g m = Bw.wide (gt f m)) {sc : List (Int × Bool)} {l n : Int} (b : Bd g to sc l n) : Bd f to sc l n := by
 induction b with
 | @var sc n h0 h1 hk hs =>
  rw [hl] at h1
  rw [hg n h0 h1] at hk
  exact .var h0 h1 (Q135 (by decide) hk) hs
 | @leaf sc n h0 h1 hk h4 =>
  rw [hl] at h1
  rw [hg n h0 h1] at hk h4
  refine .leaf h0 h1 ?_ fun h => h4 ?_
  ·unfold Bw.wide at hk
   unfold Leafy at hk ⊢
   split at hk <;> omega
  ·unfold Bw.wide
   rw [if_neg (by omega)]; exact h
 | @not sc l n h1 hk ha s ih =>
  have := s.le
  rw [hl] at h1
  rw [hg n (by omega) h1] at hk ha
  rw [(Q156 _).1] at ha
  exact .not h1 (Q135 (by decide) hk) ha ih
 | @modal sc l n h1 hk ha s ih =>
  have := s.le
  rw [hl] at h1
  rw [hg n (by omega) h1] at hk ha
  rw [(Q156 _).1] at ha
  exact .modal h1 (hk.imp (Q135 (by decide)) (Q135 (by decide))) ha ih
 | @fix sc l n h1 hk ha s ih =>
  have := s.le
  rw [hl] at h1
  rw [hg n (by omega) h1] at hk ha
  rw [(Q156 _).1] at ha
  exact .fix h1 (hk.imp (Q135 (by decide)) (Q135 (by decide))) ha ih
 | @two sc l m n h1 hk ha hb s t ih1 ih2 =>
  have := s.le
  have := t.le
  rw [hl] at h1
  rw [hg n (by omega) h1] at hk ha hb
  rw [(Q156 _).1] at ha
  rw [(Q156 _).2.1] at hb
  exact .two h1 (hk.imp (Q135 (by decide)) (Q135 (by decide))) ha hb ih1 ih2
theorem full_run4 {n : Int} (h0 : 1 ≤ n) (h1 : n ≤ 24) : Q73.f n = some (Wd (BitVec.ofInt 64 (2 ^ n.toNat - 1)), 0, 0, 0) := by
 have key : ∀ m : Fin 24, Q73.f ((m.1 : Int) + 1) = some (Wd (BitVec.ofInt 64 (2 ^ (m.1 + 1) - 1)), 0, 0, 0) := by decide +kernel
 have := key ⟨(n - 1).toNat, by omega⟩
 dsimp only at this
 rwa [show (((n - 1).toNat : Nat) : Int) + 1 = n by omega, show (n - 1).toNat + 1 = n.toNat by omega] at this
theorem full_ws {n : Int} (h0 : 1 ≤ n) (h1 : n ≤ 24) : Ws (BitVec.ofInt 64 (2 ^ n.toNat - 1)) (fun s => 0 ≤ s ∧ s < n) := fun i hi => by
 have key : ∀ m : Fin 25, ∀ i : Fin 64, (BitVec.ofInt 64 (2 ^ m.1 - 1)).getLsbD i.1 = decide (i.1 < m.1) := by decide +kernel
 have := key ⟨n.toNat, by omega⟩ ⟨i, hi⟩
 dsimp only at this ⊢
 rw [this, decide_eq_true_iff]
 omega
theorem eval_run (f : List Q1) (hs : ∀ n ∈ f, (n.Name.length : Int) ≤ 9223372036854775807) (hz : (0 + f.length) * 48 ≤ 140737488355328) :
 (∀ n holds next, Q65.f n holds next f = some (1, 0, 0, 0, 0)) ∨ ∃ to, 1 ≤ f.length ∧ f.length ≤ 60 ∧ to.length = f.length ∧ Bd f to [] 0 ((f.length : Int) - 1) ∧
  ∀ n holds next C, Tb n holds next C → ∃ v, Q65.f n holds next f = some (0, Wd v, 0, 0, 0) ∧ Ws v (den C f to ((f.length : Int) - 1) fun _ _ => False) := by
 obtain ⟨r, hr, g, rfl, hl, hg⟩ := Q66 (body := fun t_ : (List Q1) × Int => Q45.l0b f t_.1 t_.2) (fun s => s.1.length = f.length ∧ 0 ≤ s.2 ∧ s.2 ≤ (f.length : Int) ∧ (∀ m, 0 ≤ m → m < s.2 → gt s.1 m = wide (gt f m)) ∧ ∀ m, s.2 ≤ m → gt s.1 m = gt f m)
  (fun r => ∃ g, r = .inl g ∧ g.length = f.length ∧ ∀ m, 0 ≤ m → m < (f.length : Int) → gt g m = wide (gt f m)) (fun s => ((f.length : Int) - s.2).toNat) (fun ⟨t, i⟩ ⟨a0, a1, a2, a3, a4⟩ => by
   dsimp only at a0 a1 a2 a3 a4 ⊢
   unfold Q45.l0b
   by_cases hi : i < (f.length : Int)
   ·right
    have hx := a4 i (Int.le_refl _)
    rw [if_pos hi, if_pos ⟨a1, hi⟩, wrap64 (x := i + 1) (by omega) (by omega)]
    by_cases hk : (gt t i).Kind = 12
    ·rw [if_pos hk, Q16]
     refine ⟨_, rfl, ⟨by dsimp only; rw [Q105, a0], by dsimp only; omega, by dsimp only; omega, fun m m0 m1 => ?_, fun m m1 => ?_⟩, by dsimp only; omega⟩
     ·dsimp only at m1 ⊢
      rw [Q87 a1 (by omega) m0]
      split
      ·rename_i hmi
       rw [hmi, hx]
       unfold wide
       rw [if_pos (by rw [← hx]; exact hk)]
      ·exact a3 m m0 (by omega)
     ·dsimp only at m1 ⊢
      rw [Q87 a1 (by omega) (by omega), if_neg (by omega)]
      exact a4 m (by omega)
    ·rw [if_neg hk, Q16]
     refine ⟨_, rfl, ⟨a0, by dsimp only; omega, by dsimp only; omega, fun m m0 m1 => ?_, fun m m1 => a4 m (by dsimp only at m1; omega)⟩, by dsimp only; omega⟩
     dsimp only at m1 ⊢
     by_cases hm : m = i
     ·rw [hm, hx]
      unfold wide
      rw [if_neg (by rw [← hx]; exact hk)]
     ·exact a3 m m0 (by omega)
   ·left
    rw [if_neg hi]
    exact ⟨_, rfl, t, rfl, a0, fun m m0 m1 => a3 m m0 (by omega)⟩) (f, 0) ⟨rfl, Int.le_refl 0, by dsimp only; omega, fun m m0 m1 => by dsimp only at m1; omega, fun m _ => rfl⟩
 have hr' : Q45.l0 f f 0 = some (.inl g) := hr
 have hgs : ∀ x ∈ g, (x.Name.length : Int) ≤ 9223372036854775807 := fun x hx => by
  obtain ⟨q, hq, rfl⟩ := List.getElem_of_mem hx
  have e := hg (q : Int) (by omega) (by omega)
  rw [Q106 (List.getElem?_eq_getElem hq)] at e
  rw [e, (Q156 _).2.2]
  exact hs _ (Q68 (by omega) (by omega))
 obtain ⟨e, i, hc, hb⟩ := check_run g hgs
 by_cases he : e = 0
 ·right
  obtain ⟨to, B⟩ := hb he
  have n0 := B.n0
  have n1 := B.n1
  have bd : Bd f to [] 0 ((f.length : Int) - 1) := by have := B.bd.wide_of hl hg; rwa [hl] at this
  refine ⟨to, by omega, by omega, by rw [B.len, hl], bd, fun n holds next C T => ?_⟩
  have hal : Ws (BitVec.ofInt 64 (2 ^ n.toNat - 1)) C.all := by
   have := full_ws T.n0 T.n1
   unfold Ctx.all
   rw [T.N]
   exact this
  obtain ⟨e', v, hev, _, _, hw⟩ := node_run T hal bd (by rw [B.len, hl]) (fun p hp => by cases hp) (List.replicate (f.length : Int).toNat ⟨0, 0, 0, 0⟩) (fun _ _ => False) (by simp) (fun p hp => by cases hp)
  refine ⟨v, ?_, hw⟩
  unfold Q65.f Q45.f Q125.f
  rw [if_pos hz, Option.bind_some, hr', Q16, hc, Option.bind_some]
  simp only [he, if_true, B.bi, Option.bind_some, Q94.f, full_run4 T.n0 T.n1]
  rw [if_pos (by omega)]
  simp only [Option.bind_some]
  unfold Q11.f
  rw [wrap64 (by omega) (by omega), hev.recF]
  rfl
 ·left
  intro n holds next
  unfold Q65.f Q45.f Q125.f
  rw [if_pos hz, Option.bind_some, hr', Q16, hc, Option.bind_some]
  simp only [if_neg he, Option.bind_some]
end Go.Bw
namespace Go.Bw
open Go Go.RowKit

structure Bis (C D : Ctx) (c : Int → Int) : Prop where
 cm : ∀ s, C.all s → D.all (c s)
 onto : ∀ u, D.all u → ∃ s, C.all s ∧ c s = u
 ho : ∀ a s, C.all s → (C.holds a s ↔ D.holds a (c s))
 fw : ∀ a s t, C.edge a s t → D.edge a (c s) (c t)
 bk : ∀ a s w, C.all s → D.edge a (c s) w → ∃ t, C.edge a s t ∧ c t = w
theorem den_bis {C D : Ctx} (hC : C.Ok) (hD : D.Ok) {c : Int → Int} (B : Bis C D c) {f : List Q1} {to : List Int} {sc : List (Int × Bool)} {l n : Int} (b : Bd f to sc l n) : (∀ p ∈ sc, n < p.1) → ∀ {E E' : Int → PS},
 (∀ p ∈ sc, Le (E p.1) C.all) → (∀ p ∈ sc, Le (E' p.1) D.all) → (∀ p ∈ sc, ∀ s, C.all s → (E p.1 s ↔ E' p.1 (c s))) → ∀ s, C.all s → (den C f to n E s ↔ den D f to n E' (c s)) := by
 induction b with
 | @var sc n h0 h1 hk hs => intro hn E E' hE hE' h s hs'; rw [Q161 hk, Q161 hk]; exact h _ hs s hs'
 | @leaf sc n h0 h1 hk h4 =>
  intro hn E E' hE hE' h s hs
  rcases hk with hk | hk | hk | hk | hk
  ·rw [Q165 hk, Q165 hk]; exact ⟨fun _ => B.cm s hs, fun _ => hs⟩
  ·rw [Q162 hk, Q162 hk]
  ·rw [Q166 hk, Q166 hk]; exact B.ho _ s hs
  ·exact absurd hk h4
  ·rw [Q173 hk, Q173 hk]
   exact and_congr ⟨fun _ => B.cm s hs, fun _ => hs⟩ (not_congr (B.ho _ s hs))
 | @not sc l n h1 hk ha s ih =>
  intro hn E E' hE hE' h q hq
  have := s.le
  rw [Q175 hk ha (by omega), Q175 hk ha (by omega)]
  refine and_congr ⟨fun _ => B.cm q hq, fun _ => hq⟩ (not_congr (ih ?_ ?_ ?_ ?_ q hq)) <;> intro p hp <;> obtain ⟨p', hp', rfl⟩ := List.mem_map.1 hp
  ·have := hn p' hp'; dsimp only; omega
  ·exact hE p' hp'
  ·exact hE' p' hp'
  ·exact h p' hp'
 | @modal sc l n h1 hk ha s ih =>
  intro hn E E' hE hE' h q hq
  have := s.le
  have ih := ih (fun p hp => by have := hn p hp; omega) hE hE' h
  rcases hk with hk | hk
  ·rw [Q160 hk ha (by omega), Q160 hk ha (by omega)]
   constructor
   ·rintro ⟨t, h1, h2⟩
    exact ⟨c t, B.fw _ _ _ h1, (ih t (hC.edge _ _ _ h1).2).1 h2⟩
   ·rintro ⟨w, h1, h2⟩
    obtain ⟨t, h3, rfl⟩ := B.bk _ _ _ hq h1
    exact ⟨t, h3, (ih t (hC.edge _ _ _ h3).2).2 h2⟩
  ·rw [Q172 hk ha (by omega), Q172 hk ha (by omega)]
   refine and_congr ⟨fun _ => B.cm q hq, fun _ => hq⟩ ?_
   constructor
   ·intro hh w hw
    obtain ⟨t, h3, rfl⟩ := B.bk _ _ _ hq hw
    exact (ih t (hC.edge _ _ _ h3).2).1 (hh t h3)
   ·intro hh t ht
    exact (ih t (hC.edge _ _ _ ht).2).2 (hh _ (B.fw _ _ _ ht))
 | @fix sc l n h1 hk ha s ih =>
  intro hn E E' hE hE' h q hq
  have sl := s.le
  have hn' : ∀ p ∈ (n, true) :: sc, n - 1 < p.1 := fun p hp => by
   rcases List.mem_cons.1 hp with rfl | hp
   ·dsimp only; omega
   ·have := hn p hp; omega
  have cons : ∀ {A : Ctx} {X : Int → PS} {S : PS}, (∀ p ∈ sc, Le (X p.1) A.all) → Le S A.all → ∀ p ∈ (n, true) :: sc, Le (updE X n S p.1) A.all := fun hX hS p hp => by
   rcases List.mem_cons.1 hp with rfl | hp
   ·rw [Q139]; exact hS
   ·rw [Q129 (by have := hn p hp; omega)]; exact hX p hp
  have inC : ∀ S, Le S C.all → Le (den C f to (n - 1) (updE E n S)) C.all := fun S hS => Q177 hC s (cons hE hS) hn'
  have inD : ∀ S, Le S D.all → Le (den D f to (n - 1) (updE E' n S)) D.all := fun S hS => Q177 hD s (cons hE' hS) hn'
  have moC : ∀ S S', Le S S' → Le (den C f to (n - 1) (updE E n S)) (den C f to (n - 1) (updE E n S')) := fun S S' h => Q215 s hn' ((Way.rfl sc E).cons (fun p hp => by have := hn p hp; omega) h)
  have moD : ∀ S S', Le S S' → Le (den D f to (n - 1) (updE E' n S)) (den D f to (n - 1) (updE E' n S')) := fun S S' h => Q215 s hn' ((Way.rfl sc E').cons (fun p hp => by have := hn p hp; omega) h)
  have IH : ∀ S S' : PS, Le S C.all → Le S' D.all → (∀ s, C.all s → (S s ↔ S' (c s))) → ∀ s, C.all s → (den C f to (n - 1) (updE E n S) s ↔ den D f to (n - 1) (updE E' n S') (c s)) := fun S S' hS hS' hh =>
   ih hn' (cons hE hS) (cons hE' hS') (fun p hp => by
    rcases List.mem_cons.1 hp with rfl | hp
    ·rw [Q139, Q139]; exact hh
    ·rw [Q129 (by have := hn p hp; omega), Q129 (by have := hn p hp; omega)]; exact h p hp)
  rcases hk with hk | hk
  ·rw [Q157 hk ha (by omega), Q157 hk ha (by omega)]
   have lD : Le (lfp fun S => den D f to (n - 1) (updE E' n S)) D.all := fun u hu => hu D.all (inD _ fun _ h => h)
   have lC : Le (lfp fun S => den C f to (n - 1) (updE E n S)) C.all := fun u hu => hu C.all (inC _ fun _ h => h)
   constructor
   ·intro hs
    refine (hs (fun s => C.all s ∧ lfp (fun S => den D f to (n - 1) (updE E' n S)) (c s)) fun t ht => ?_).2
    have ta := inC _ (fun _ h => h.1) t ht
    exact ⟨ta, Q233 moD _ ((IH _ _ (fun _ h => h.1) lD (fun s hs => ⟨fun h => h.2, fun h => ⟨hs, h⟩⟩) t ta).1 ht)⟩
   ·intro hs
    refine (hs (fun u => D.all u ∧ ∀ s, C.all s → c s = u → lfp (fun S => den C f to (n - 1) (updE E n S)) s) fun u hu => ⟨inD _ (fun _ h => h.1) u hu, fun t ht htu => ?_⟩).2 q hq rfl
    subst htu
    refine Q233 moC _ (moC (fun s => C.all s ∧ D.all (c s) ∧ ∀ s', C.all s' → c s' = c s → lfp (fun S => den C f to (n - 1) (updE E n S)) s') _ (fun s h => h.2.2 s h.1 rfl) t ?_)
    exact (IH _ _ (fun _ h => h.1) (fun _ h => h.1) (fun s hs => ⟨fun h => h.2, fun h => ⟨hs, h⟩⟩) t ht).2 hu
  ·rw [Q168 hk ha (by omega), Q168 hk ha (by omega)]
   constructor
   ·rintro ⟨S, hS, hs⟩
    refine ⟨fun u => D.all u ∧ ∃ s, C.all s ∧ c s = u ∧ S s, fun u hu => ⟨hu.1, ?_⟩, B.cm q hq, q, hq, rfl, hs⟩
    obtain ⟨_, t, ht, rfl, hSt⟩ := hu
    refine (IH (fun s => C.all s ∧ D.all (c s) ∧ ∃ s', C.all s' ∧ c s' = c s ∧ S s') _ (fun _ h => h.1) (fun _ h => h.1) (fun s hs => ⟨fun h => h.2, fun h => ⟨hs, h⟩⟩) t ht).1 ?_
    exact moC S _ (fun s h => ⟨(hS s h).1, B.cm s (hS s h).1, s, (hS s h).1, rfl, h⟩) t (hS t hSt).2
   ·rintro ⟨S, hS, hs⟩
    refine ⟨fun s => C.all s ∧ S (c s), fun t ht => ⟨ht.1, ?_⟩, hq, hs⟩
    exact (IH _ S (fun _ h => h.1) (fun u h => (hS u h).1) (fun s hs => ⟨fun h => h.2, fun h => ⟨hs, h⟩⟩) t ht.1).2 (hS _ ht.2).2
 | @two sc l m n h1 hk ha hb s t ih1 ih2 =>
  intro hn E E' hE hE' h q hq
  have := s.le
  have := t.le
  have ih1 := ih1 (fun p hp => by have := hn p hp; omega) hE hE' h q hq
  have ih2 := ih2 (fun p hp => by have := hn p hp; omega) hE hE' h q hq
  rcases hk with hk | hk
  ·rw [Q171 hk ha hb (by omega) (by omega), Q171 hk ha hb (by omega) (by omega)]
   exact and_congr ih1 ih2
  ·rw [Q167 hk ha hb (by omega) (by omega), Q167 hk ha hb (by omega) (by omega)]
   exact or_congr ih1 ih2
end Go.Bw
namespace Go.Bw
open Go Go.RowKit

theorem band0 (v : BitVec 64) : band .u64 (Wd v) 0 = 0 := by
 rw [show (0 : Int) = Wd 0#64 from rfl, Q186]
 simp
def Meets (S : Int → Prop) (to : BitVec 64) : Prop := ∃ t : Nat, t < 64 ∧ S t ∧ to.getLsbD t = true
theorem Q248 {u : W4} {S : Int → Prop} (h : u.Rep S) (to : BitVec 64) : u.a &&& to = 0#64 ↔ ¬ Meets S to := by
 have hb : ∀ i : Nat, i < 64 → (u.a.getLsbD i = true ↔ S i) := fun i hi => by
  have := h i (by omega) (by omega)
  unfold W4.has W4.sel at this
  rw [show ((i : Int) / 64) = 0 from by omega, show ((i : Int) % 64).toNat = i from by omega] at this
  simpa using this
 constructor
 ·rintro h0 ⟨t, h1, h2, h3⟩
  have := congrArg (fun z => z.getLsbD t) h0
  simp [(hb t h1).2 h2, h3] at this
 ·intro hn
  apply BitVec.eq_of_getLsbD_eq
  intro i hi
  rw [BitVec.getLsbD_and]
  cases h1 : u.a.getLsbD i with
  | false => simp
  | true =>
   cases h2 : to.getLsbD i with
   | false => simp
   | true => exact absurd ⟨i, hi, (hb i hi).1 h1, h2⟩ hn
theorem back_run {x : List Bs} {y : List Q3} {next : List (Q7 × Q2)} (hx : Nx x y next) {n : Int} (hn : 0 ≤ n) (hn2 : n ≤ 24) (holds : List (Bs × Q2)) (to : BitVec 64) (a : Bs) :
 ∃ v : W4, Q37.f n holds next (Wd to) 0 0 0 a = some v.t ∧ v.Rep (fun s => 0 ≤ s ∧ s < n ∧ Meets (Hit x y ⟨s, a⟩) to) := by
 obtain ⟨r, hr, v, rfl, hv⟩ := Q66 (body := fun t_ : Int × Int × Int × Int × Int => Q37.l0b n next (Wd to) 0 0 0 a t_.1 t_.2.1 t_.2.2.1 t_.2.2.2.1 t_.2.2.2.2)
  (fun s => 0 ≤ s.2.2.2.2 ∧ s.2.2.2.2 ≤ n ∧ ∃ v : W4, (s.1, s.2.1, s.2.2.1, s.2.2.2.1) = v.t ∧ v.Rep (fun q => 0 ≤ q ∧ q < s.2.2.2.2 ∧ Meets (Hit x y ⟨q, a⟩) to))
  (fun r => ∃ v : W4, r = .inl v.t ∧ v.Rep (fun s => 0 ≤ s ∧ s < n ∧ Meets (Hit x y ⟨s, a⟩) to)) (fun s => (n - s.2.2.2.2).toNat)
  (fun ⟨w0, w1, w2, w3, i⟩ ⟨a0, a1, v, a2, a3⟩ => by
   dsimp only at a0 a1 a2 a3 ⊢
   simp only [W4.t, Prod.mk.injEq] at a2
   obtain ⟨rfl, rfl, rfl, rfl⟩ := a2
   unfold Q37.l0b
   by_cases hi : i < n
   ·right
    obtain ⟨u, hu, hur⟩ := hx ⟨i, a⟩
    rw [if_pos hi, hu, wrap64 (x := i + 1) (by omega) (by omega)]
    simp only [W4.s, Q101.f, Q186, band0, Option.bind_some, decide_true, Bool.and_true]
    by_cases hz : u.a &&& to = 0#64
    ·rw [if_pos (by rw [hz]; rfl), Q16]
     refine ⟨_, rfl, ⟨by dsimp only; omega, by dsimp only; omega, v, rfl, fun q q0 q1 => ?_⟩, by dsimp only; omega⟩
     rw [a3 q q0 q1]
     have hnm := (Q248 hur to).1 hz
     dsimp only
     constructor
     ·rintro ⟨h1, h2, h3⟩; exact ⟨h1, by omega, h3⟩
     ·rintro ⟨h1, h2, h3⟩
      refine ⟨h1, ?_, h3⟩
      have : q ≠ i := fun h => by subst h; exact hnm h3
      omega
    ·rw [if_neg (by rw [decide_eq_true_eq]; exact fun h => hz (wd_zero.1 h)), Q189, if_pos (by omega)]
     simp only [Option.bind_some, Q16]
     refine ⟨_, rfl, ⟨by dsimp only; omega, by dsimp only; omega, v.put i, rfl, fun q q0 q1 => ?_⟩, by dsimp only; omega⟩
     rw [W4.put_rep a3 a0 (by omega) q q0 q1]
     have hm : Meets (Hit x y ⟨i, a⟩) to := Classical.not_not.1 fun h => hz ((Q248 hur to).2 h)
     dsimp only
     constructor
     ·rintro (⟨h1, h2, h3⟩ | rfl)
      ·exact ⟨h1, by omega, h3⟩
      ·exact ⟨a0, by omega, hm⟩
     ·rintro ⟨h1, h2, h3⟩
      by_cases h : q = i
      ·exact .inr h
      ·exact .inl ⟨h1, by omega, h3⟩
   ·left
    rw [if_neg hi]
    refine ⟨_, rfl, v, rfl, ?_⟩
    have : i = n := by omega
    subst this
    exact a3) (0, 0, 0, 0, 0) ⟨Int.le_refl _, hn, W4.z, rfl, fun q q0 q1 => by
     rw [W4.z_rep q q0 q1]
     dsimp only
     constructor
     ·exact fun h => h.elim
     ·rintro ⟨h1, h2, _⟩; omega⟩
 refine ⟨v, ?_, hv⟩
 unfold Q37.f
 have hl : Q37.l0 n next (Wd to) 0 0 0 a 0 0 0 0 0 = some (.inl v.t) := hr
 rw [hl, Q16]
end Go.Bw
namespace Go.Bw
open Go Go.RowKit
theorem has_run {u : W4} {n : Int} : Q69.f (Wd u.a) (Wd u.b) (Wd u.c) (Wd u.d) n = some (decide (0 ≤ n ∧ n < 256) && u.has n) := by
 unfold Q69.f
 by_cases h0 : 0 ≤ n
 ·rw [if_pos h0, Q16]
  by_cases h1 : n < 256
  ·have hm : IntKind.u64.wrap (band .i64 n 63) = n % 64 := by rw [band63 h0 (by omega), wrapu (by omega) (by omega)]
   have hbit : ∀ v : BitVec 64, decide (band .u64 (Bw.shr .u64 (Wd v) (n % 64)) 1 = 1) = v.getLsbD (n % 64).toNat := fun v => by
    rw [Bool.eq_iff_iff, decide_eq_true_eq, bit_wd v (by omega) (by omega)]
   have hn : (0 : Int) ≤ n % 64 := by omega
   have hr : (0 : Int) ≤ n / 64 ∧ n / 64 < 4 := by omega
   rw [if_pos (decide_eq_true h1), shr6 h0, hm, if_pos hr, decide_eq_true (show 0 ≤ n ∧ n < 256 from ⟨h0, h1⟩), Bool.true_and]
   simp only [if_pos hn, hbit]
   unfold W4.has W4.sel
   by_cases k0 : n / 64 = 0
   ·simp [k0, jn]
   ·by_cases k1 : n / 64 = 1
    ·simp [k1, jn]
    ·by_cases k2 : n / 64 = 2
     ·simp [k2, jn]
     ·simp [k0, k1, k2, jn]
  ·rw [if_neg (by simp; omega), decide_eq_false (by omega)]
   rfl
 ·rw [if_neg h0, Q16, if_neg (by simp), decide_eq_false (by omega)]
  rfl
end Go.Bw
namespace Go.Bw
open Go Go.RowKit

section
variable {z : List Q4} {holds : List (Bs × Q2)}
noncomputable def hoW (hh : Hx z holds) (a : Bs) : W4 := (hh a).choose
theorem hoW_rep (hh : Hx z holds) (a : Bs) : (hoW hh a).Rep (fun t => ∃ p ∈ z, p.Name = a ∧ t ∈ p.States) := (hh a).choose_spec.2
theorem hoW_run (hh : Hx z holds) (n : Int) (next : List (Q7 × Q2)) (a : Bs) : Q93.f n holds next a = some (hoW hh a).t := by
 have h := (hh a).choose_spec.1
 unfold Q93.f
 rw [h]
 rfl
end
def sysC (n : Int) (x : List Bs) (y : List Q3) (z : List Q4) : Ctx := ⟨n, fun a s => ∃ p ∈ z, p.Name = a ∧ s ∈ p.States, fun a s t => Hit x y ⟨s, a⟩ t⟩
theorem Q151 {n : Int} {x : List Bs} {y : List Q3} {z : List Q4} (R : RightS n x y z) : (sysC n x y z).Ok := by
 refine ⟨fun a s ⟨p, hp, _, hs⟩ => ?_, fun a s t ⟨e, he, h1, h2, _⟩ => ?_⟩
 ·exact (R.pr p hp).2.1 s hs
 ·have := R.ed e he
  unfold EdgeIn at this
  unfold Ctx.all sysC
  dsimp only at h1 h2 ⊢
  omega
theorem sys_tb {n : Int} {x : List Bs} {y : List Q3} {z : List Q4} (R : RightS n x y z) {holds : List (Bs × Q2)} {next : List (Q7 × Q2)} (hx : Nx x y next) (hh : Hx z holds) : Tb n holds next (sysC n x y z) := by
 have n0 := R.n0
 have n1 := R.n1
 refine ⟨rfl, n0, n1, Q151 R, fun a => ?_, fun a v S hv hS => ?_⟩
 ·obtain ⟨e, hw⟩ := W4.word (n := n) (by omega) (hoW_rep hh a) (fun s hs => (Q151 R).holds a s hs)
  refine ⟨(hoW hh a).a, ?_, hw⟩
  rw [hoW_run hh n next a, e]
  rfl
 ·obtain ⟨u, hu, hr⟩ := back_run hx (show 0 ≤ n by omega) (by omega) holds v a
  obtain ⟨e, hw⟩ := W4.word (n := n) (by omega) hr (fun s hs => ⟨hs.1, hs.2.1⟩)
  refine ⟨u.a, by rw [hu, e]; rfl, fun i hi => (hw i hi).trans ?_⟩
  constructor
  ·rintro ⟨_, _, t, ht, h1, h2⟩
   exact ⟨t, h1, (hv t ht).1 h2⟩
  ·rintro ⟨t, h1, h2⟩
   have h3 := (Q151 R).edge a i t h1
   have h4 := h3.2
   unfold Ctx.all sysC at h3 h4
   dsimp only at h3 h4
   refine ⟨h3.1.1, h3.1.2, t.toNat, by omega, ?_, (hv t.toNat (by omega)).2 ?_⟩
   ·rw [show ((t.toNat : Nat) : Int) = t by omega]; exact h1
   ·rw [show ((t.toNat : Nat) : Int) = t by omega]; exact h2
theorem Q254 (v : BitVec 64) {i : Int} (h0 : 0 ≤ i) (h1 : i < 64) : Q69.f (Wd v) 0 0 0 i = some (v.getLsbD i.toNat) := by
 have := has_run (u := ⟨v, 0#64, 0#64, 0#64⟩) (n := i)
 rw [show Wd (0#64) = 0 from rfl] at this
 rw [this, decide_eq_true (by omega), Bool.true_and]
 unfold W4.has W4.sel
 rw [if_pos (by omega), show i % 64 = i by omega]
theorem new_tab {n : Int} {x : List Bs} {y : List Q3} {z : List Q4} (hs : ∀ p ∈ z, (p.States.length : Int) ≤ 9223372036854775807) (R : RightS n x y z) : ∃ holds next, Q17.f n x y z = some (some ⟨n, holds, next⟩) ∧ Tb n holds next (sysC n x y z) := by
 obtain ⟨m0, hm0, hh⟩ := Q271 z (by have := R.nz; omega) hs (fun i j h0 h1 h2 => rise_ne R.rz h0 h1 h2)
 obtain ⟨m1, hm1, hx⟩ := l1_run n x y (by have := R.ny; omega) R.ed R.n1
 obtain ⟨b, hb, hf⟩ := Q235 n x y z hs
 have hbt : b = true := hf.2 R
 subst hbt
 exact ⟨m0, m1, by unfold Q17.f; rw [hb]; simp [hm0, hm1, jn], sys_tb R hx hh⟩
theorem new_none {n : Int} {x : List Bs} {y : List Q3} {z : List Q4} (hs : ∀ p ∈ z, (p.States.length : Int) ≤ 9223372036854775807) (h : ¬ RightS n x y z) : Q17.f n x y z = some none := by
 obtain ⟨b, hb, hf⟩ := Q235 n x y z hs
 have hbt : b = false := by
  cases b with
  | false => rfl
  | true => exact absurd (hf.1 rfl) h
 subst hbt
 unfold Q17.f
 rw [hb]
 simp [jn]
end Go.Bw
namespace Go.Bw
open Go Go.RowKit
theorem Q154 {k a m r M : Nat} (ha : a < 2 ^ k) (hm : m < 2 ^ k) : (2 ^ k * r + a) &&& (2 ^ k * M + m) = 2 ^ k * (r &&& M) + (a &&& m) := by
 have hl : a &&& m < 2 ^ k := Nat.lt_of_le_of_lt Nat.and_le_left ha
 refine Nat.eq_of_testBit_eq fun j => ?_
 rw [Nat.testBit_and, Nat.testBit_two_pow_mul_add _ ha, Nat.testBit_two_pow_mul_add _ hm, Nat.testBit_two_pow_mul_add _ hl]
 split
 ·rw [Nat.testBit_and]
 ·rw [Nat.testBit_and]
def g1 (M x : Nat) : Nat := ((x / 2) &&& M) + (x &&& M)
def g2 (M x : Nat) : Nat := ((x / 4) &&& M) + (x &&& M)
def g3 (M x : Nat) : Nat := (x / 16 + x) &&& M
theorem Q208 {m M a r : Nat} (ha : a < 256) (hm : m < 128) : g1 (256 * M + m) (256 * r + a) = 256 * g1 M r + g1 m a := by
 unfold g1
 have e1 : (256 * r + a) / 2 = 2 ^ 8 * (r / 2) + (2 ^ 7 * (r % 2) + a / 2) := by omega
 have h1 : 2 ^ 7 * (r % 2) + a / 2 < 2 ^ 8 := by omega
 have e2 : (2 ^ 7 * (r % 2) + a / 2) &&& m = (a / 2) &&& m := by
  have := Q154 (k := 7) (a := a / 2) (m := m) (r := r % 2) (M := 0) (by omega) (by omega)
  simpa using this
 rw [e1, show 256 * M + m = 2 ^ 8 * M + m from rfl, Q154 h1 (by omega), e2, show 256 * r + a = 2 ^ 8 * r + a from rfl, Q154 (by omega) (by omega)]
 omega
theorem Q218 {m M a r : Nat} (ha : a < 256) (hm : m < 64) : g2 (256 * M + m) (256 * r + a) = 256 * g2 M r + g2 m a := by
 unfold g2
 have e1 : (256 * r + a) / 4 = 2 ^ 8 * (r / 4) + (2 ^ 6 * (r % 4) + a / 4) := by omega
 have h1 : 2 ^ 6 * (r % 4) + a / 4 < 2 ^ 8 := by omega
 have e2 : (2 ^ 6 * (r % 4) + a / 4) &&& m = (a / 4) &&& m := by
  have := Q154 (k := 6) (a := a / 4) (m := m) (r := r % 4) (M := 0) (by omega) (by omega)
  simpa using this
 rw [e1, show 256 * M + m = 2 ^ 8 * M + m from rfl, Q154 h1 (by omega), e2, show 256 * r + a = 2 ^ 8 * r + a from rfl, Q154 (by omega) (by omega)]
 omega
theorem Q234 {M a r : Nat} (ha : a / 16 ≤ 4 ∧ a % 16 ≤ 4) (hr : r % 16 ≤ 4) : g3 (256 * M + 15) (256 * r + a) = 256 * g3 M r + g3 15 a := by
 unfold g3
 have e1 : (256 * r + a) / 16 + (256 * r + a) = 2 ^ 8 * (r / 16 + r) + (16 * (r % 16) + (a / 16 + a)) := by omega
 have e2 : (16 * (r % 16) + (a / 16 + a)) &&& 15 = (a / 16 + a) &&& 15 := by
  rw [show 15 = 2 ^ 4 - 1 from rfl, Nat.and_two_pow_sub_one_eq_mod, Nat.and_two_pow_sub_one_eq_mod]
  omega
 rw [e1, show 256 * M + 15 = 2 ^ 8 * M + 15 from rfl, Q154 (by omega) (by omega), e2]
def pc8 (a : Nat) : Nat := (List.range 8).countP fun i => a.testBit i
theorem Q163 : ∀ a : Fin 256, g1 85 a.1 < 256 ∧ (g2 51 (g1 85 a.1) / 16 ≤ 4 ∧ g2 51 (g1 85 a.1) % 16 ≤ 4) ∧ g2 51 (g1 85 a.1) < 256 ∧ g3 15 (g2 51 (g1 85 a.1)) = pc8 a.1 ∧ pc8 a.1 ≤ 8 := by decide +kernel
theorem three_pop {a b c : Nat} (ha : a < 256) (hb : b < 256) (hc : c < 256) : g3 1085102592571150095 (g2 3689348814741910323 (g1 6148914691236517205 (256 * (256 * (256 * 0 + c) + b) + a))) = 256 * (256 * pc8 c + pc8 b) + pc8 a := by
 obtain ⟨a1, a2, a3, a4, a5⟩ := Q163 ⟨a, ha⟩
 obtain ⟨b1, b2, b3, b4, b5⟩ := Q163 ⟨b, hb⟩
 obtain ⟨c1, c2, c3, c4, c5⟩ := Q163 ⟨c, hc⟩
 dsimp only at a1 a2 a3 a4 a5 b1 b2 b3 b4 b5 c1 c2 c3 c4 c5
 have z1 : ∀ M, g1 M 0 = 0 := fun M => by simp [g1]
 have z2 : ∀ M, g2 M 0 = 0 := fun M => by simp [g2]
 have z3 : ∀ M, g3 M 0 = 0 := fun M => by simp [g3]
 rw [show 6148914691236517205 = 256 * (256 * (256 * 366503875925 + 85) + 85) + 85 from rfl, Q208 ha (by decide), Q208 hb (by decide), Q208 hc (by decide), z1]
 rw [show 3689348814741910323 = 256 * (256 * (256 * 219902325555 + 51) + 51) + 51 from rfl, Q218 a1 (by decide), Q218 b1 (by decide), Q218 c1 (by decide), z2]
 rw [show 1085102592571150095 = 256 * (256 * (256 * 64677154575 + 15) + 15) + 15 from rfl]
 rw [Q234 a2 (by omega), Q234 b2 (by omega), Q234 c2 (by omega), z3, a4, b4, c4]
 omega
theorem range24 : List.range 24 = List.range 8 ++ (List.range 8).map (· + 8) ++ (List.range 8).map (· + 16) := by decide
theorem Q303 {a b c : Nat} (ha : a < 256) (hb : b < 256) : (List.range 24).countP (fun i => (256 * (256 * c + b) + a).testBit i) = pc8 a + pc8 b + pc8 c := by
 have t : ∀ {x y : Nat}, x < 256 → ∀ i, (256 * y + x).testBit i = if i < 8 then x.testBit i else y.testBit (i - 8) := fun {x y} hx i => by
  rw [show 256 * y + x = 2 ^ 8 * y + x from rfl, Nat.testBit_two_pow_mul_add _ (show x < 2 ^ 8 from hx)]
 unfold pc8
 rw [range24, List.countP_append, List.countP_append, List.countP_map, List.countP_map]
 congr 1
 ·congr 1
  ·refine List.countP_congr fun i hi => ?_
   rw [t ha, if_pos (by simpa using hi)]
  ·refine List.countP_congr fun i hi => ?_
   have := List.mem_range.1 hi
   simp only [Function.comp]
   rw [t ha, if_neg (by omega), t hb, if_pos (by omega), show i + 8 - 8 = i from by omega]
 ·refine List.countP_congr fun i hi => ?_
  have := List.mem_range.1 hi
  simp only [Function.comp]
  rw [t ha, if_neg (by omega), t hb, if_neg (by omega), show i + 16 - 8 - 8 = i from by omega]
def cnt (v : BitVec 64) : Nat := (List.range 24).countP fun i => v.getLsbD i
theorem Q170 (x k : Nat) (hk : k < 64) : Bw.shr .u64 (x : Int) (k : Int) = ((x / 2 ^ k : Nat) : Int) := by
 unfold Bw.shr
 have : min (k : Int).toNat IntKind.u64.bits = k := by
  rw [show IntKind.u64.bits = 64 from rfl]; omega
 rw [this, Int.fdiv_eq_ediv_of_nonneg _ (Int.le_of_lt (Int.pow_pos (by decide)))]
 simp
theorem Q180 {x y : Nat} (hx : x < 2 ^ 64) (hy : y < 2 ^ 64) : band .u64 (x : Int) (y : Int) = ((x &&& y : Nat) : Int) := by
 have h := Q186 (BitVec.ofNat 64 x) (BitVec.ofNat 64 y)
 unfold Wd at h
 rw [BitVec.toNat_and, BitVec.toNat_ofNat, BitVec.toNat_ofNat, Nat.mod_eq_of_lt hx, Nat.mod_eq_of_lt hy] at h
 exact h
theorem ones24 {v : BitVec 64} (hv : v.toNat < 2 ^ 24) : Q18.f (Wd v) = some (cnt v : Int) := by
 obtain ⟨a, b, c, ha, hb, hc, e⟩ : ∃ a b c : Nat, a < 256 ∧ b < 256 ∧ c < 256 ∧ v.toNat = 256 * (256 * (256 * 0 + c) + b) + a := ⟨v.toNat % 256, v.toNat / 256 % 256, v.toNat / 65536, by omega, by omega, by omega, by omega⟩
 have hp := three_pop ha hb hc
 rw [← e] at hp
 have hcnt : cnt v = pc8 a + pc8 b + pc8 c := by
  rw [← Q303 (c := c) ha hb]
  unfold cnt
  refine List.countP_congr fun i _ => ?_
  show v.toNat.testBit i = true ↔ _
  rw [e, Nat.mul_zero, Nat.zero_add]
 have ba := (Q163 ⟨a, ha⟩).2.2.2.2
 have bb := (Q163 ⟨b, hb⟩).2.2.2.2
 have bc := (Q163 ⟨c, hc⟩).2.2.2.2
 dsimp only at ba bb bc
 have le : ∀ {x M : Nat}, x &&& M ≤ M := fun {x M} => Nat.and_le_right
 generalize hx : v.toNat = x at hp hv
 have hw : Wd v = (x : Int) := by unfold Wd; rw [hx]
 have o1 : Q18.o1 (x : Int) = (g1 6148914691236517205 x : Nat) := by
  unfold Q18.o1 g1
  have h1 := le (x := x / 2) (M := 6148914691236517205)
  have h2 := le (x := x) (M := 6148914691236517205)
  rw [show (1 : Int) = ((1 : Nat) : Int) from rfl, Q170 _ _ (by decide), show (6148914691236517205 : Int) = ((6148914691236517205 : Nat) : Int) from rfl, show x / 2 ^ 1 = x / 2 from by simp, Q180 (by omega) (by decide), Q180 (by omega) (by decide), wrapu (by omega) (by omega)]
  simp
 have l1 : g1 6148914691236517205 x < 2 ^ 64 := by
  unfold g1
  have h1 := le (x := x / 2) (M := 6148914691236517205)
  have h2 := le (x := x) (M := 6148914691236517205)
  omega
 have o2 : Q18.o2 ((g1 6148914691236517205 x : Nat) : Int) = (g2 3689348814741910323 (g1 6148914691236517205 x) : Nat) := by
  generalize g1 6148914691236517205 x = z at l1
  unfold Q18.o2 g2
  have h1 := le (x := z / 4) (M := 3689348814741910323)
  have h2 := le (x := z) (M := 3689348814741910323)
  rw [show (2 : Int) = ((2 : Nat) : Int) from rfl, Q170 _ _ (by decide), show (3689348814741910323 : Int) = ((3689348814741910323 : Nat) : Int) from rfl, show z / 2 ^ 2 = z / 4 from by simp, Q180 (by omega) (by decide), Q180 (by omega) (by decide), wrapu (by omega) (by omega)]
  simp
 have l2 : g2 3689348814741910323 (g1 6148914691236517205 x) < 2 ^ 63 := by
  generalize g1 6148914691236517205 x = z
  unfold g2
  have h1 := le (x := z / 4) (M := 3689348814741910323)
  have h2 := le (x := z) (M := 3689348814741910323)
  omega
 have o3 : Q18.o3 ((g2 3689348814741910323 (g1 6148914691236517205 x) : Nat) : Int) = (g3 1085102592571150095 (g2 3689348814741910323 (g1 6148914691236517205 x)) : Nat) := by
  generalize g2 3689348814741910323 (g1 6148914691236517205 x) = z at l2
  unfold Q18.o3 g3
  rw [show (4 : Int) = ((4 : Nat) : Int) from rfl, Q170 _ _ (by decide), show (1085102592571150095 : Int) = ((1085102592571150095 : Nat) : Int) from rfl, show z / 2 ^ 4 = z / 16 from by simp, wrapu (by omega) (by omega), ← Int.natCast_add, Q180 (by omega) (by decide)]
 unfold Q18.f
 rw [hw, o1, o2, o3, hp, hcnt]
 have w4 : Q18.o4 ((256 * (256 * pc8 c + pc8 b) + pc8 a : Nat) : Int) = ((65536 * pc8 c + 256 * (pc8 b + pc8 c) + (pc8 a + pc8 b) : Nat) : Int) := by
  unfold Q18.o4
  rw [show (8 : Int) = ((8 : Nat) : Int) from rfl, Q170 _ _ (by decide), wrapu (by omega) (by omega)]
  omega
 have w5 : Q18.o5 ((65536 * pc8 c + 256 * (pc8 b + pc8 c) + (pc8 a + pc8 b) : Nat) : Int) = ((65536 * pc8 c + 256 * (pc8 b + pc8 c) + (pc8 a + pc8 b + pc8 c) : Nat) : Int) := by
  unfold Q18.o5
  rw [show (16 : Int) = ((16 : Nat) : Int) from rfl, Q170 _ _ (by decide), wrapu (by omega) (by omega)]
  omega
 have w6 : Q18.o6 ((65536 * pc8 c + 256 * (pc8 b + pc8 c) + (pc8 a + pc8 b + pc8 c) : Nat) : Int) = ((65536 * pc8 c + 256 * (pc8 b + pc8 c) + (pc8 a + pc8 b + pc8 c) : Nat) : Int) := by
  unfold Q18.o6
  rw [show (32 : Int) = ((32 : Nat) : Int) from rfl, Q170 _ _ (by decide), wrapu (by omega) (by omega)]
  omega
 rw [w4, w5, w6, wrap64 (by omega) (by omega)]
 have h7 : ∀ z : Nat, z < 2 ^ 62 → band .i64 (z : Int) 127 = ((z % 128 : Nat) : Int) := fun z hz => by
  show IntKind.i64.wrap ((BitVec.ofInt 64 (z : Int) &&& BitVec.ofInt 64 127).toNat : Int) = _
  have e2 : (BitVec.ofInt 64 127).toNat = 2 ^ 7 - 1 := by rfl
  have e3 : (BitVec.ofInt 64 (z : Int) &&& BitVec.ofInt 64 127).toNat = z % 2 ^ 7 := by
   rw [BitVec.toNat_and, e2, Nat.and_two_pow_sub_one_eq_mod]
   congr 1
   rw [BitVec.ofInt_natCast, BitVec.toNat_ofNat, Nat.mod_eq_of_lt (by omega)]
  rw [e3, wrap64 (by omega) (by omega)]
 rw [h7 _ (by omega)]
 congr 1
 omega
theorem toNat24 {v : BitVec 64} (h : ∀ i, 24 ≤ i → v.getLsbD i = false) : v.toNat < 2 ^ 24 :=
 Nat.lt_pow_two_of_testBit _ fun i hi => h i hi
theorem cnt_le (v : BitVec 64) : cnt v ≤ 24 := by
 unfold cnt
 exact Nat.le_trans List.countP_le_length (by simp)
theorem len24 {v : BitVec 64} (h : ∀ i, 24 ≤ i → v.getLsbD i = false) : Q96.f (Wd v) 0 0 0 = some (cnt v : Int) := by
 have hz := ones24 (v := 0#64) (by decide)
 rw [show Wd 0#64 = 0 from rfl, show cnt 0#64 = 0 from by decide] at hz
 have := cnt_le v
 unfold Q96.f
 rw [ones24 (toNat24 h), hz]
 simp only [Option.bind_some]
 rw [wrap64 (x := 0 + (cnt v : Int)) (by omega) (by omega), wrap64 (x := 0 + (cnt v : Int) + ((0 : Nat) : Int)) (by omega) (by omega), wrap64 (x := 0 + (cnt v : Int) + ((0 : Nat) : Int) + ((0 : Nat) : Int)) (by omega) (by omega), wrap64 (x := 0 + (cnt v : Int) + ((0 : Nat) : Int) + ((0 : Nat) : Int) + ((0 : Nat) : Int)) (by omega) (by omega)]
 congr 1
 omega
end Go.Bw
namespace Go.Bw
open Go Go.RowKit

section
variable {n : Int} {x : List Bs} {y : List Q3} {z : List Q4} {next : List (Q7 × Q2)} {holds : List (Bs × Q2)}
noncomputable def tn6k (hx : Nx x y next) (n f a : Int) (k : Nat) : List Q3 := ((List.range k).filter fun j => (nxW hx f (gt x a)).has (n - 1 - (j : Nat))).map fun j : Nat => ⟨n - 1 - f, a, (j : Int)⟩
theorem Q239 (hx : Nx x y next) (n f a : Int) (k : Nat) : (tn6k hx n f a k).length ≤ k := by
 unfold tn6k
 rw [List.length_map]
 exact Nat.le_trans (List.length_filter_le _ _) (by simp)
theorem t6_run (hx : Nx x y next) (hn : 0 ≤ n ∧ n ≤ 24) {f a : Int} (f0 : 0 ≤ f ∧ f < n) (a0 : 0 ≤ a) (a1 : a < (x.length : Int)) (acc : List Q3) (ha : acc.length ≤ 9000) :
 Q12.l5 n x f a acc (some ⟨n, holds, next⟩) (n - 1) = some (.inl (acc ++ tn6 hx n f a, some ⟨n, holds, next⟩)) := by
 have w1 : IntKind.i64.wrap (n - 1) = n - 1 := wrap64 (by omega) (by omega)
 have w2 : IntKind.i64.wrap (n - 1 - f) = n - 1 - f := wrap64 (by omega) (by omega)
 have key : ∀ (q k : Nat), k + q = n.toNat → iter (fun t_ : (List Q3) × (Option Q13) × Int => Q12.l5b n x f a t_.1 t_.2.1 t_.2.2) (acc ++ tn6k hx n f a k, some ⟨n, holds, next⟩, n - 1 - (k : Int)) = some (.inl (acc ++ tn6 hx n f a, some ⟨n, holds, next⟩)) := fun q => by
  induction q with
  | zero =>
   intro k hk
   have hkn : k = n.toNat := by omega
   refine Q185 ?_
   simp only [Q12.l5b]
   rw [if_neg (by omega), hkn]
   rfl
  | succ q ih =>
   intro k hk
   have h0 : 0 ≤ n - 1 - (k : Int) := by omega
   have w3 : IntKind.i64.wrap (n - 1 - (k : Int) - 1) = n - 1 - ((k + 1 : Nat) : Int) := by rw [wrap64 (by omega) (by omega)]; omega
   have w4 : IntKind.i64.wrap (n - 1 - (n - 1 - (k : Int))) = (k : Int) := by rw [wrap64 (by omega) (by omega)]; omega
   have hl := Q239 hx n f a k
   have hstep : tn6k hx n f a (k + 1) = tn6k hx n f a k ++ (if (nxW hx f (gt x a)).has (n - 1 - (k : Int)) = true then [⟨n - 1 - f, a, (k : Int)⟩] else []) := by
    unfold tn6k
    rw [List.range_succ, List.filter_append, List.map_append]
    by_cases hc : (nxW hx f (gt x a)).has (n - 1 - (k : Int)) = true
    ·rw [if_pos hc, List.filter_cons_of_pos (by simpa using hc)]; rfl
    ·rw [if_neg hc, List.filter_cons_of_neg (by simpa using hc)]; rfl
   have hb : Q12.l5b n x f a (acc ++ tn6k hx n f a k) (some ⟨n, holds, next⟩) (n - 1 - (k : Int)) = some (.inl (acc ++ tn6k hx n f a (k + 1), some ⟨n, holds, next⟩, n - 1 - ((k + 1 : Nat) : Int))) := by
    simp only [Q12.l5b]
    rw [if_pos h0, if_pos ⟨a0, a1⟩]
    simp only [Option.isNone_some, if_true, Option.getD_some, nxW_run hx, Option.bind_some, W4.t, has_run, decide_eq_true (show 0 ≤ n - 1 - (k : Int) ∧ n - 1 - (k : Int) < 256 by omega), Bool.true_and, w1, w2, w3, w4]
    rw [hstep]
    by_cases hc : (nxW hx f (gt x a)).has (n - 1 - (k : Int)) = true
    ·rw [if_pos hc, if_pos hc, if_pos (by simp; omega), Q16, List.append_assoc]
     rfl
    ·rw [if_neg hc, if_neg hc, Q16, List.append_nil]
     rfl
   rw [Q181 (body := fun t_ : (List Q3) × (Option Q13) × Int => Q12.l5b n x f a t_.1 t_.2.1 t_.2.2) hb]
   exact ih (k + 1) (by omega)
 have := key n.toNat 0 (by omega)
 have e0 : acc ++ tn6k hx n f a 0 = acc := by unfold tn6k; simp
 rw [e0, show n - 1 - ((0 : Nat) : Int) = n - 1 from by omega] at this
 exact this
theorem tn6_len (hx : Nx x y next) (hn : 0 ≤ n ∧ n ≤ 24) (f a : Int) : (tn6 hx n f a).length ≤ 24 := by
 have := Q239 hx n f a n.toNat
 have e : tn6 hx n f a = tn6k hx n f a n.toNat := rfl
 rw [e]
 omega
theorem t5_run (hx : Nx x y next) (hn : 0 ≤ n ∧ n ≤ 24) (hl8 : x.length ≤ 8) {f : Int} (f0 : 0 ≤ f ∧ f < n) (acc : List Q3) (ha : acc.length ≤ 8000) :
 Q12.l4 n x f acc (some ⟨n, holds, next⟩) 0 = some (.inl (acc ++ tn5 hx n f, some ⟨n, holds, next⟩)) := by
 have w1 : IntKind.i64.wrap (n - 1) = n - 1 := wrap64 (by omega) (by omega)
 have key : ∀ (q k : Nat), k + q = x.length → iter (fun t_ : (List Q3) × (Option Q13) × Int => Q12.l4b n x f t_.1 t_.2.1 t_.2.2) (acc ++ (List.range k).flatMap (fun a : Nat => tn6 hx n f a), some ⟨n, holds, next⟩, (k : Int)) = some (.inl (acc ++ tn5 hx n f, some ⟨n, holds, next⟩)) := fun q => by
  induction q with
  | zero =>
   intro k hk
   have hkn : k = x.length := by omega
   refine Q185 ?_
   simp only [Q12.l4b]
   rw [if_neg (by omega), hkn]
   rfl
  | succ q ih =>
   intro k hk
   have hfm := Q201 (f := fun a : Nat => tn6 hx n f a) (fun i => tn6_len hx hn f i) k
   have h6 := t6_run (holds := holds) hx hn f0 (a := (k : Int)) (by omega) (by omega) (acc ++ (List.range k).flatMap (fun a : Nat => tn6 hx n f a)) (by rw [List.length_append]; omega)
   have hb : Q12.l4b n x f (acc ++ (List.range k).flatMap (fun a : Nat => tn6 hx n f a)) (some ⟨n, holds, next⟩) (k : Int) = some (.inl (acc ++ (List.range (k + 1)).flatMap (fun a : Nat => tn6 hx n f a), some ⟨n, holds, next⟩, ((k + 1 : Nat) : Int))) := by
    simp only [Q12.l4b]
    rw [if_pos (by omega), w1, h6, Q16, wrap64 (x := (k : Int) + 1) (by omega) (by omega), List.range_succ, List.flatMap_append, ← List.append_assoc]
    simp
    rfl
   rw [Q181 (body := fun t_ : (List Q3) × (Option Q13) × Int => Q12.l4b n x f t_.1 t_.2.1 t_.2.2) hb]
   exact ih (k + 1) (by omega)
 have := key x.length 0 (by omega)
 rw [List.range_zero, List.flatMap_nil, List.append_nil] at this
 exact this
theorem tn5_len (hx : Nx x y next) (hn : 0 ≤ n ∧ n ≤ 24) (hl8 : x.length ≤ 8) (f : Int) : (tn5 hx n f).length ≤ 192 := by
 have := Q201 (f := fun a : Nat => tn6 hx n f a) (fun i => tn6_len hx hn f i) x.length
 have e : tn5 hx n f = (List.range x.length).flatMap (fun a : Nat => tn6 hx n f a) := rfl
 rw [e]
 omega
theorem t0_run (hx : Nx x y next) (hn : 0 ≤ n ∧ n ≤ 24) (hl8 : x.length ≤ 8) : Q12.l0 n x [] (some ⟨n, holds, next⟩) (n - 1) = some (.inl (tn0 hx n, some ⟨n, holds, next⟩)) := by
 have key : ∀ (q k : Nat), k + q = n.toNat → iter (fun t_ : (List Q3) × (Option Q13) × Int => Q12.l0b n x t_.1 t_.2.1 t_.2.2) ((List.range k).flatMap (fun i : Nat => tn5 hx n (n - 1 - i)), some ⟨n, holds, next⟩, n - 1 - (k : Int)) = some (.inl (tn0 hx n, some ⟨n, holds, next⟩)) := fun q => by
  induction q with
  | zero =>
   intro k hk
   have hkn : k = n.toNat := by omega
   refine Q185 ?_
   simp only [Q12.l0b]
   rw [if_neg (by omega), hkn]
   rfl
  | succ q ih =>
   intro k hk
   have hfm := Q201 (f := fun i : Nat => tn5 hx n (n - 1 - i)) (fun i => tn5_len hx hn hl8 _) k
   have h5 := t5_run (holds := holds) hx hn hl8 (f := n - 1 - (k : Int)) (by omega) ((List.range k).flatMap (fun i : Nat => tn5 hx n (n - 1 - i))) (by omega)
   have hb : Q12.l0b n x ((List.range k).flatMap (fun i : Nat => tn5 hx n (n - 1 - i))) (some ⟨n, holds, next⟩) (n - 1 - (k : Int)) = some (.inl ((List.range (k + 1)).flatMap (fun i : Nat => tn5 hx n (n - 1 - i)), some ⟨n, holds, next⟩, n - 1 - ((k + 1 : Nat) : Int))) := by
    simp only [Q12.l0b]
    have hw : IntKind.i64.wrap (n - 1 - (k : Int) - 1) = n - 1 - ((k + 1 : Nat) : Int) := by rw [wrap64 (by omega) (by omega)]; omega
    rw [if_pos (by omega), h5, Q16, hw, List.range_succ, List.flatMap_append]
    simp
    rfl
   rw [Q181 (body := fun t_ : (List Q3) × (Option Q13) × Int => Q12.l0b n x t_.1 t_.2.1 t_.2.2) hb]
   exact ih (k + 1) (by omega)
 have := key n.toNat 0 (by omega)
 rw [List.range_zero, List.flatMap_nil, show n - 1 - ((0 : Nat) : Int) = n - 1 from by omega] at this
 exact this
theorem t1_run (R : RightS n x y z) : Q12.l1 n z [] 0 = some (.inl (z.map (rvP n))) := by
 have n0 := R.n0
 have n1 := R.n1
 have nz := R.nz
 have w1 : IntKind.i64.wrap (n - 1) = n - 1 := wrap64 (by omega) (by omega)
 have h := push_loop (L := z) (β := Q4) (ρ := Bool) (rvP n) (body := fun t_ : (List Q4) × Int => Q12.l1b n z t_.1 t_.2) (by omega) [] (fun a i i0 i1 ha => by
  have hP := (R.pr _ (Q68 i0 i1)).2
  have hfew := Q268 n1 hP
  have e4 : Q12.l3 n z i [] (((gt z i).States.length : Int) - 1) = some (.inl ((gt z i).States.reverse.map fun s => n - 1 - s)) := by
   have h := down_loop (L := (gt z i).States) (β := Int) (ρ := ((List Q4) × Int) ⊕ (((List Q4)) ⊕ (Bool))) (fun s => n - 1 - s) (body := fun t_ : (List Int) × Int => Q12.l3b n z i t_.1 t_.2) [] (fun b k k0 k1 hb => by
    have hm := hP.1 _ (Q68 k0 k1)
    simp only [Q12.l3b]
    rw [if_pos k0, if_pos ⟨k0, k1⟩, w1, if_pos (by simp; simp at hb; omega), wrap64 (x := n - 1 - gt (gt z i).States k) (by omega) (by omega), wrap64 (x := k - 1) (by omega) (by omega)]
    rfl) (fun b k hk => by simp only [Q12.l3b]; rw [if_neg (by omega)]; rfl)
   rw [List.nil_append] at h
   exact h
  simp only [Q12.l1b]
  rw [if_pos i1, if_pos ⟨i0, i1⟩, wrap64 (x := ((gt z i).States.length : Int) - 1) (by omega) (by omega), e4, Q16, if_pos (by simp at ha; omega), wrap64 (x := i + 1) (by omega) (by omega)]
  rfl) (fun a i hi => by simp only [Q12.l1b]; rw [if_neg hi]; rfl)
 rw [List.nil_append] at h
 exact h
end
theorem turn_bis {n : Int} {x : List Bs} {y : List Q3} {z : List Q4} {next : List (Q7 × Q2)} (R : RightS n x y z) (hx : Nx x y next) : Bis (sysC n x (tn0 hx n) (z.map (rvP n))) (sysC n x y z) (fun s => n - 1 - s) := by
 have n0 := R.n0
 have rr : ∀ u : Int, n - 1 - (n - 1 - u) = u := fun u => by omega
 have hit : ∀ (a : Bs) (s t : Int), Hit x (tn0 hx n) ⟨s, a⟩ t ↔ Hit x y ⟨n - 1 - s, a⟩ (n - 1 - t) := fun a s t => by
  constructor
  ·rintro ⟨e, he, h1, h2, h3⟩
   dsimp only at h1 h2 h3
   refine ⟨rvE n e, (Q187 R hx).1 he, ?_, ?_, h3⟩
   ·show n - 1 - e.From = n - 1 - s
    omega
   ·show n - 1 - e.To = n - 1 - t
    omega
  ·rintro ⟨e, he, h1, h2, h3⟩
   dsimp only at h1 h2 h3
   have hre : rvE n (rvE n e) = e := by cases e; unfold rvE; simp only [Q3.mk.injEq]; exact ⟨by omega, trivial, by omega⟩
   refine ⟨rvE n e, (Q187 R hx).2 (by rw [hre]; exact he), ?_, ?_, h3⟩
   ·show n - 1 - e.From = s
    omega
   ·show n - 1 - e.To = t
    omega
 have all_ : ∀ s : Int, 0 ≤ s ∧ s < n → 0 ≤ n - 1 - s ∧ n - 1 - s < n := fun s h => by omega
 refine ⟨fun s hs => all_ s hs, fun u hu => ⟨n - 1 - u, all_ u hu, rr u⟩, fun a s hs => ?_, fun a s t h => (hit a s t).1 h, fun a s w hs h => ⟨n - 1 - w, (hit a s _).2 (by rw [rr]; exact h), rr w⟩⟩
 have hst : ∀ p, (s ∈ (rvP n p).States ↔ n - 1 - s ∈ p.States) := fun p => by
  unfold rvP
  dsimp only
  rw [List.mem_map]
  constructor
  ·rintro ⟨u, hu, rfl⟩
   rw [rr]
   simpa using hu
  ·exact fun h => ⟨n - 1 - s, by simpa using h, by omega⟩
 constructor
 ·rintro ⟨p, hp, e, hm⟩
  obtain ⟨p0, hp0, rfl⟩ := List.mem_map.1 hp
  exact ⟨p0, hp0, e, (hst p0).1 hm⟩
 ·rintro ⟨p, hp, e, hm⟩
  exact ⟨rvP n p, List.mem_map_of_mem hp, e, (hst p).2 hm⟩
theorem Q311 {n : Int} (n0 : 0 ≤ n) (n1 : n ≤ 24) {u v : BitVec 64} (hu : ∀ i : Nat, n ≤ (i : Int) → u.getLsbD i = false) (hv : ∀ i : Nat, n ≤ (i : Int) → v.getLsbD i = false) (h : ∀ i : Int, 0 ≤ i → i < n → v.getLsbD i.toNat = u.getLsbD (n - 1 - i).toNat) : cnt v = cnt u := by
 have key : ∀ w : BitVec 64, (∀ i : Nat, n ≤ (i : Int) → w.getLsbD i = false) → cnt w = (List.range n.toNat).countP fun i => w.getLsbD i := fun w hw => by
  unfold cnt
  have e : (24 : Nat) = n.toNat + (24 - n.toNat) := by omega
  rw [e, List.range_add, List.countP_append, List.countP_map]
  have : List.countP ((fun i => w.getLsbD i) ∘ fun x => n.toNat + x) (List.range (24 - n.toNat)) = 0 := List.countP_eq_zero.2 fun i _ => by
   simp only [Function.comp]
   rw [hw (n.toNat + i) (by omega)]
   simp
  omega
 rw [key v hv, key u hu, ← List.countP_reverse (l := List.range n.toNat) (p := fun i => u.getLsbD i)]
 have hrev : (List.range n.toNat).reverse = (List.range n.toNat).map fun i => n.toNat - 1 - i := by
  refine List.ext_getElem (by simp) fun i h1 h2 => ?_
  simp at h1 ⊢
 rw [hrev, List.countP_map]
 refine List.countP_congr fun i hi => ?_
 have := List.mem_range.1 hi
 have hh := h (i : Int) (by omega) (by omega)
 simp only [Function.comp]
 rw [show ((i : Int)).toNat = i from by omega, show (n - 1 - (i : Int)).toNat = n.toNat - 1 - i from by omega] at hh
 rw [hh]
theorem Q236 {n : Int} {v u : BitVec 64} {d d' : Int} (n0 : 0 ≤ n) (hn : n ≤ 24) (h : ∀ i, 0 ≤ i → i < n → v.getLsbD i.toNat = u.getLsbD (n - 1 - i).toNat) :
 Q12.l2 n (d, Wd v, 0, 0, 0) (d', Wd u, 0, 0, 0) 0 = some (.inl ()) := by
 obtain ⟨r, hr, rfl⟩ := Q66 (body := fun t_ : Int => Q12.l2b n (d, Wd v, 0, 0, 0) (d', Wd u, 0, 0, 0) t_) (fun i => 0 ≤ i) (fun r => r = .inl ()) (fun i => (n - i).toNat) (fun i i0 => by
  simp only [Q12.l2b]
  by_cases hi : i < n
  ·right
   have h1 := h i i0 hi
   rw [if_pos hi, Q254 v i0 (by omega), Option.bind_some, wrap64 (x := n - 1) (by omega) (by omega), wrap64 (x := n - 1 - i) (by omega) (by omega), Q254 u (by omega) (by omega), Option.bind_some, ← h1, if_pos (by simp), wrap64 (x := i + 1) (by omega) (by omega)]
   exact ⟨_, rfl, by omega, by omega⟩
  ·left; rw [if_neg hi]; exact ⟨_, rfl, rfl⟩) 0 (Int.le_refl _)
 exact hr
theorem moved_run (n : Int) (x : List Bs) (y : List Q3) (z : List Q4) (f : List Q1) (hs : ∀ p ∈ z, (p.States.length : Int) ≤ 9223372036854775807) (hf : ∀ n ∈ f, (n.Name.length : Int) ≤ 9223372036854775807) (hz : (0 + f.length) * 48 ≤ 140737488355328) :
 Q12.f n x y z f = some true := by
 unfold Q12.f
 rw [Q309, Option.bind_some]
 by_cases R : RightS n x y z
 ·have n0 := R.n0
  have n1 := R.n1
  have ny := R.ny
  obtain ⟨m0, hm0, hh⟩ := Q271 z (by have := R.nz; omega) hs (fun i j h0 h1 h2 => rise_ne R.rz h0 h1 h2)
  obtain ⟨m1, hm1, hx⟩ := l1_run n x y (by have := R.ny; omega) R.ed R.n1
  obtain ⟨b, hb, hfr⟩ := Q235 n x y z hs
  have hbt : b = true := hfr.2 R
  subst hbt
  have hN : Q17.f n x y z = some (some ⟨n, m0, m1⟩) := by unfold Q17.f; rw [hb]; simp [hm0, hm1, jn]
  have T := sys_tb R hx hh
  have R2 := Q333 R hx
  have hs2 : ∀ p ∈ z.map (rvP n), (p.States.length : Int) ≤ 9223372036854775807 := fun p hp => by
   have := Q268 R2.n1 (R2.pr p hp).2
   omega
  obtain ⟨ho2, ne2, hN2, T2⟩ := new_tab hs2 R2
  have w1 : IntKind.i64.wrap (n - 1) = n - 1 := wrap64 (by omega) (by omega)
  simp only [hN, Option.bind_some, if_true, Option.isNone_some, Q16, Bool.false_eq_true, if_false, w1, t0_run (holds := m0) hx ⟨by omega, n1⟩ R.nx, t1_run R, hN2, Option.getD_some]
  rcases eval_run f hf hz with h | ⟨to, f0, f1, ft, bd, h⟩
  ·simp only [h, Option.bind_some]
   have := Q236 (n := n) (v := 0#64) (u := 0#64) (d := 1) (d' := 1) (by omega) (by omega) (fun i _ _ => by simp)
   rw [show Wd 0#64 = 0 from rfl] at this
   have hl := len24 (v := 0#64) (fun i _ => by simp)
   rw [show Wd 0#64 = 0 from rfl] at hl
   rw [this]
   simp only [Q16, if_true, hl, Option.bind_some]
   simp
  ·obtain ⟨v, e1, w1⟩ := h _ _ _ _ T
   obtain ⟨u, e2, w2⟩ := h _ _ _ _ T2
   simp only [e1, e2, Option.bind_some]
   have lim : ∀ {C : Ctx} {w : BitVec 64}, C.Ok → Ws w (den C f to ((f.length : Int) - 1) fun _ _ => False) → ∀ i : Nat, C.N ≤ (i : Int) → w.getLsbD i = false := fun {C w} hC hw i hi => by
    cases hb : w.getLsbD i with
    | false => rfl
    | true =>
     have hlt := BitVec.lt_of_getLsbD hb
     have hd := Q177 hC bd (fun p hp => by cases hp) (fun p hp => by cases hp) _ ((hw i hlt).1 hb)
     exact absurd hd.2 (by omega)
   have key : ∀ s, 0 ≤ s → s < n → v.getLsbD s.toNat = u.getLsbD (n - 1 - s).toNat := fun s s0 s1 => by
    rw [Bool.eq_iff_iff, w1 s.toNat (by omega), w2 (n - 1 - s).toNat (by omega), show ((s.toNat : Nat) : Int) = s by omega, show (((n - 1 - s).toNat : Nat) : Int) = n - 1 - s by omega]
    have := den_bis (Q151 R2) (Q151 R) (turn_bis R hx) bd (E := fun _ _ => False) (E' := fun _ _ => False) (fun p hp => by cases hp) (fun p hp => by cases hp) (fun p hp => by cases hp) (fun p hp => by cases hp) (n - 1 - s) ⟨by omega, by show n - 1 - s < n; omega⟩
    rw [show n - 1 - (n - 1 - s) = s by omega] at this
    exact this.symm
   have c1 := lim (Q151 R) w1
   have c2 := lim (Q151 R2) w2
   have cm := Q311 (n := n) (by omega) n1 c2 c1 key
   rw [Q236 (by omega) n1 key]
   simp only [Q16, if_true, len24 (v := v) (fun i hi => c1 i (by show n ≤ _; omega)), len24 (v := u) (fun i hi => c2 i (by show n ≤ _; omega)), Option.bind_some, cm]
   simp
 ·rw [new_none hs R]
  simp [jn]
end Go.Bw
namespace Go.Bw
open Go Go.RowKit Go.ChangeShapes Go.WideShapes Go.Deep
section
variable {P : Program} {α β γ δ ε : Type}
theorem Q332 {H : Type} {enc : TypeId × Value → H} {w : World} {base : Nat} {spare : TypeId → Bool} {held : Bool} {t : TypeId} {f0 f1 f2 f3 f4 : Field} {fuel : Nat} {cs : List Value} {x : DataW H × List MemPlace} (ht : P.underlying t = some (.struct #[f0, f1, f2, f3, f4])) (h : DataW.trod enc P w base spare held fuel t cs = some x) :
 ∃ y0 y1 y2 y3 y4 n, x = (.agg [y0.1, y1.1, y2.1, y3.1, y4.1], y0.2 ++ (y1.2 ++ (y2.2 ++ (y3.2 ++ y4.2)))) ∧ cs.length = P.cellsOf t ∧ DataW.trod enc P w base spare held n f0.type ((cs.drop f0.offset).take (P.cellsOf f0.type)) = some y0 ∧
  DataW.trod enc P w base spare held n f1.type ((cs.drop f1.offset).take (P.cellsOf f1.type)) = some y1 ∧ DataW.trod enc P w base spare held n f2.type ((cs.drop f2.offset).take (P.cellsOf f2.type)) = some y2 ∧
  DataW.trod enc P w base spare held n f3.type ((cs.drop f3.offset).take (P.cellsOf f3.type)) = some y3 ∧ DataW.trod enc P w base spare held n f4.type ((cs.drop f4.offset).take (P.cellsOf f4.type)) = some y4 := by
 obtain ⟨xs, n, _, rfl, hl, hlen, hf⟩ := DataW.trod_struct ht h
 match xs, hlen with
 | [y0, y1, y2, y3, y4], _ => exact ⟨y0, y1, y2, y3, y4, n, by simp, hl, by simpa using hf 0 f0 rfl, by simpa using hf 1 f1 rfl, by simpa using hf 2 f2 rfl, by simpa using hf 3 f3 rfl, by simpa using hf 4 f4 rfl⟩
theorem OpensZ.st5 {T : Rep α} {U : Rep β} {V : Rep γ} {X : Rep δ} {Y : Rep ε} {S Z : α → Prop} {S' Z' : β → Prop} {S'' Z'' : γ → Prop} {S3 Z3 : δ → Prop} {S4 Z4 : ε → Prop} {t : Nat} {f0 f1 f2 f3 f4 : Field} (ht : P.underlying t = some (.struct #[f0, f1, f2, f3, f4])) (o0 : OpensZ P T f0.type S Z) (o1 : OpensZ P U f1.type S' Z') (o2 : OpensZ P V f2.type S'' Z'') (o3 : OpensZ P X f3.type S3 Z3) (o4 : OpensZ P Y f4.type S4 Z4)
 (h0 : f0.offset = 0) (h1 : f1.offset = T.sz) (h2 : f2.offset = T.sz + U.sz) (h3 : f3.offset = T.sz + (U.sz + V.sz)) (h4 : f4.offset = T.sz + (U.sz + (V.sz + X.sz))) (hc : P.cellsOf t = T.sz + (U.sz + (V.sz + (X.sz + Y.sz)))) :
 OpensZ P (T.pair (U.pair (V.pair (X.pair Y)))) t (fun p => S p.1 ∧ S' p.2.1 ∧ S'' p.2.2.1 ∧ S3 p.2.2.2.1 ∧ S4 p.2.2.2.2) (fun p => Z p.1 ∧ Z' p.2.1 ∧ Z'' p.2.2.1 ∧ Z3 p.2.2.2.1 ∧ Z4 p.2.2.2.2) := ⟨hc, fun fuel cs x h => by
 obtain ⟨y0, y1, y2, y3, y4, n, hx, hl, g0, g1, g2, g3, g4⟩ := Q332 ht h
 obtain ⟨a, ka, sa, za⟩ := o0.2 _ _ _ g0
 obtain ⟨b, kb, sb, zb⟩ := o1.2 _ _ _ g1
 obtain ⟨c, kc, sc, zc⟩ := o2.2 _ _ _ g2
 obtain ⟨d, kd, sd, zd⟩ := o3.2 _ _ _ g3
 obtain ⟨e, ke, se, ze⟩ := o4.2 _ _ _ g4
 rw [h0, o0.1, List.drop_zero] at ka
 rw [h1, o1.1] at kb
 rw [h2, o2.1, ← List.drop_drop] at kc
 rw [h3, o3.1, ← List.drop_drop, ← List.drop_drop] at kd
 rw [h4, o4.1, ← List.drop_drop, ← List.drop_drop, ← List.drop_drop] at ke
 have e1 : cs = cs.take T.sz ++ cs.drop T.sz := (List.take_append_drop _ _).symm
 have e2 : cs.drop T.sz = (cs.drop T.sz).take U.sz ++ (cs.drop T.sz).drop U.sz := (List.take_append_drop _ _).symm
 have e3 : (cs.drop T.sz).drop U.sz = ((cs.drop T.sz).drop U.sz).take V.sz ++ ((cs.drop T.sz).drop U.sz).drop V.sz := (List.take_append_drop _ _).symm
 have e4 := cut2 (cs := ((cs.drop T.sz).drop U.sz).drop V.sz) (a := X.sz) (b := Y.sz) (by simp; omega)
 exact ⟨(a, b, c, d, e), ⟨_, _, e1, ka, _, _, e2, kb, _, _, e3, kc, _, _, e4, kd, ke⟩, ⟨sa, sb, sc, sd, se⟩, fun hw => ⟨za fun w hq => (hw w (by rw [(Prod.mk.inj hx).1]; simp [DataW.weights, DataW.weightsEach, ht, hq])), zb fun w hq => (hw w (by rw [(Prod.mk.inj hx).1]; simp [DataW.weights, DataW.weightsEach, ht, hq])), zc fun w hq => (hw w (by rw [(Prod.mk.inj hx).1]; simp [DataW.weights, DataW.weightsEach, ht, hq])), zd fun w hq => (hw w (by rw [(Prod.mk.inj hx).1]; simp [DataW.weights, DataW.weightsEach, ht, hq])), ze fun w hq => (hw w (by rw [(Prod.mk.inj hx).1]; simp [DataW.weights, DataW.weightsEach, ht, hq]))⟩⟩⟩
end
end Go.Bw
namespace Go.Bw
open Go Go.RowKit Go.Proofs
theorem Q301 {n : Int} {x : List Bs} {y : List Q3} {z : List Q4} {f : List Q1} (h : (Lit.int .i64 n).wf = true ∧ (x.length ≤ maxLen ∧ ∀ s ∈ x, s.length ≤ maxLen) ∧ (y.length ≤ maxLen ∧ ∀ e ∈ y, ((Lit.int .i64 e.From).wf = true ∧ (Lit.int .i64 e.Action).wf = true ∧ (Lit.int .i64 e.To).wf = true)) ∧
 (z.length ≤ maxLen ∧ ∀ p ∈ z, (p.Name.length ≤ maxLen ∧ (p.States.length ≤ maxLen ∧ ∀ s ∈ p.States, (Lit.int .i64 s).wf = true))))
 (w : True ∧ (x.length * Tryz.prog.bytesOf 9 ≤ reachBytes ∧ ∀ s ∈ x, True) ∧ (y.length * Tryz.prog.bytesOf 32 ≤ reachBytes ∧ ∀ e ∈ y, (True ∧ True ∧ True)) ∧ (z.length * Tryz.prog.bytesOf 35 ≤ reachBytes ∧ ∀ p ∈ z, (True ∧ (p.States.length * Tryz.prog.bytesOf 3 ≤ reachBytes ∧ ∀ s ∈ p.States, True))))
 (h2 : f.length ≤ maxLen ∧ ∀ e ∈ f, ((Lit.int .i64 e.Kind).wf = true ∧ (Lit.int .i64 e.A).wf = true ∧ (Lit.int .i64 e.B).wf = true ∧ e.Name.length ≤ maxLen ∧ (Lit.int .i64 e.At).wf = true))
 (w2 : f.length * Tryz.prog.bytesOf 51 ≤ reachBytes ∧ ∀ e ∈ f, (True ∧ True ∧ True ∧ True ∧ True)) :
 Q12.f n x y z f = some true := moved_run n x y z f (fun p hp => by
 have h1 := (h.2.2.2.2 p hp).2.1
 have h2 : maxLen ≤ 9223372036854775807 := by decide
 omega) (fun p hp => by
 have h1 := (h2.2 p hp).2.2.2.1
 have h2 : maxLen ≤ 9223372036854775807 := by decide
 omega) (by
 have b : Tryz.prog.bytesOf 51 = 48 := by kernel_rfl
 have hr : reachBytes = 140737488351232 := rfl
 have := w2.1
 rw [b, hr] at this
 omega)
end Go.Bw
