/- DenoteApart, part 6: walks and plain laws. Conditions: none. -/
import Derived.Test.YtfbjkcnefhgodaaGreatBwDenoteApartE
set_option linter.unusedVariables false
set_option linter.unusedSimpArgs false
set_option linter.unusedSectionVars false
set_option maxRecDepth 100000
set_option maxHeartbeats 2000000
namespace Go.Bw
open Go Go.RowKit

noncomputable def itk {σ ρ : Type} (B : σ → Option (σ ⊕ ρ)) : σ ⊕ ρ → Option ρ
 | .inl s' => iter B s'
 | .inr r => some r
theorem Q240 {σ ρ : Type} (B : σ → Option (σ ⊕ ρ)) (s : σ) : iter B s = (B s).bind (itk B) := by
 rw [Q67]
 congr 1
theorem Ev.iter_step {σ ρ : Type} {B : Nat → σ → Option (σ ⊕ ρ)} {s s' : σ} {r : ρ} (h : Ev (fun k => B k s) (.inl s')) (g : Ev (fun k => iter (B k) s') r) : Ev (fun k => iter (B k) s) r := by
 rw [show (fun k => iter (B k) s) = fun k => (B k s).bind (itk (B k)) from funext fun k => Q240 _ _]
 exact Ev.bind (F := fun k => itk (B k)) h g
theorem Ev.iter_end {σ ρ : Type} {B : Nat → σ → Option (σ ⊕ ρ)} {s : σ} {r : ρ} (h : Ev (fun k => B k s) (.inr r)) : Ev (fun k => iter (B k) s) r := by
 rw [show (fun k => iter (B k) s) = fun k => (B k s).bind (itk (B k)) from funext fun k => Q240 _ _]
 exact Ev.bind (F := fun k => itk (B k)) h (Ev.const r)
def Ws (v : BitVec 64) (S : PS) : Prop := ∀ i : Nat, i < 64 → (v.getLsbD i = true ↔ S i)
theorem Ws.eq {v : BitVec 64} {S T : PS} {n : Int} (hn : n ≤ 64) (hu : Ws v S) (hv : Ws v T) (hS : ∀ s, S s → 0 ≤ s ∧ s < n) (hT : ∀ s, T s → 0 ≤ s ∧ s < n) : S = T := by
 funext s
 apply propext
 by_cases h : 0 ≤ s ∧ s < n
 ·have a := hu s.toNat (by omega)
  have b := hv s.toNat (by omega)
  rw [show ((s.toNat : Nat) : Int) = s by omega] at a b
  exact a.symm.trans b
 ·exact ⟨fun x => absurd (hS s x) h, fun x => absurd (hT s x) h⟩
theorem Ws.and {u v : BitVec 64} {S T : PS} (hu : Ws u S) (hv : Ws v T) : Ws (u &&& v) (fun s => S s ∧ T s) := fun i hi => by
 rw [BitVec.getLsbD_and, Bool.and_eq_true, hu i hi, hv i hi]
theorem Ws.or {u v : BitVec 64} {S T : PS} (hu : Ws u S) (hv : Ws v T) : Ws (u ||| v) (fun s => S s ∨ T s) := fun i hi => by
 rw [BitVec.getLsbD_or, Bool.or_eq_true, hu i hi, hv i hi]
theorem Ws.minus {u v : BitVec 64} {S T : PS} (hu : Ws u S) (hv : Ws v T) : Ws (u &&& ~~~ v) (fun s => S s ∧ ¬ T s) := fun i hi => by
 rw [BitVec.getLsbD_and, Bool.and_eq_true, hu i hi, BitVec.getLsbD_not]
 show _ ↔ S i ∧ ¬ T i
 rw [← hv i hi]
 simp [hi]
theorem Ws.none : Ws 0#64 (fun _ => False) := fun i hi => by simp
theorem Ws.lt {u v : BitVec 64} {S T : PS} (hu : Ws u S) (hv : Ws v T) (h : Le S T) (hne : u ≠ v) : u.toNat < v.toNat := by
 have e : u = u &&& v := BitVec.eq_of_getLsbD_eq fun i hi => by
  rw [BitVec.getLsbD_and, Bool.eq_iff_iff, Bool.and_eq_true]
  exact ⟨fun x => ⟨x, (hv i hi).2 (h _ ((hu i hi).1 x))⟩, fun x => x.1⟩
 have h1 : u.toNat ≤ v.toNat := by
  rw [e, BitVec.toNat_and]
  exact Nat.and_le_right
 have h2 : u.toNat ≠ v.toNat := fun h => hne (BitVec.eq_of_toNat_eq h)
 omega
theorem W4.word {u : W4} {S : PS} {n : Int} (hn : n ≤ 64) (h : u.Rep S) (hS : ∀ s, S s → 0 ≤ s ∧ s < n) : u = ⟨u.a, 0#64, 0#64, 0#64⟩ ∧ Ws u.a S := by
 have ha : Ws u.a S := fun i hi => by
  have := h i (by omega) (by omega)
  rw [← this]
  unfold W4.has W4.sel
  rw [if_pos (by omega), show ((i : Int) % 64).toNat = i by omega]
 refine ⟨W4.ext4 fun m m0 m1 => ?_, ha⟩
 by_cases hm : m / 64 = 0
 ·unfold W4.has W4.sel
  rw [if_pos hm, if_pos hm]
 ·have e : u.has m = false := by
   cases hh : u.has m with
   | false => rfl
   | true => have := hS m ((h m m0 m1).1 hh); omega
  rw [e]
  unfold W4.has W4.sel
  rw [if_neg hm]
  split
  ·simp
  ·split <;> simp
structure Tb (n : Int) (holds : List (Bs × Q2)) (next : List (Q8 × Q2)) (C : Ctx) : Prop where
 N : C.N = n
 n0 : 1 ≤ n
 n1 : n ≤ 24
 ok : C.Ok
 ho : ∀ a, ∃ v, Q90.f n holds next a = some (Wd v, 0, 0, 0) ∧ Ws v (C.holds a)
 ba : ∀ a v S, Ws v S → Le S C.all → ∃ u, Q33.f n holds next (Wd v) 0 0 0 a = some (Wd u, 0, 0, 0) ∧ Ws u (fun s => ∃ t, C.edge a s t ∧ S t)
abbrev S1 (v : BitVec 64) : Q2 := ⟨Wd v, 0, 0, 0⟩
theorem band00 : band .u64 0 0 = 0 := rfl
theorem bor00 : bor .u64 0 0 = 0 := rfl
theorem bandnot00 : bandnot .u64 0 0 = 0 := rfl
section
variable {n : Int} {holds : List (Bs × Q2)} {next : List (Q8 × Q2)} {C : Ctx} {f : List Q1} {to : List Int} {al : BitVec 64}
theorem Q215 (v : BitVec 64) (e : List Q2) : Q63.f n holds next f to (Wd al) 0 0 0 e (Wd v) 0 0 0 = some (Wd (al &&& ~~~ v), 0, 0, 0) := by
 unfold Q63.f Q126.f
 rw [Q304, bandnot00]
 rfl
def EnvD (C : Ctx) (e : List Q2) (E : Int → PS) (m : Int) : Prop := ∃ v, gt e m = S1 v ∧ Ws v (E m) ∧ Le (E m) C.all
abbrev NdR (C : Ctx) (n' : Int) (f : List Q1) (e : List Q2) (D : PS) (e' : List Q2) (v : BitVec 64) : Prop :=
 e'.length = f.length ∧ (∀ m, n' < m → gt e' m = gt e m) ∧ Ws v D
def jnk {σ ρ : Type} (g : σ → Option ρ) : σ ⊕ ρ → Option ρ
 | .inl s => g s
 | .inr o => some o
theorem jn_jnk {σ ρ : Type} (x : Option (σ ⊕ ρ)) (g : σ → Option ρ) : jn x g = x.bind (jnk g) := by
 rcases x with _ | _ | _ <;> rfl
theorem Ev.jn_inr {σ ρ : Type} {N : Nat → Option (σ ⊕ ρ)} {g : σ → Option ρ} {r : ρ} (h : Ev N (.inr r)) : Ev (fun k => jn (N k) g) r := by
 rw [show (fun k => jn (N k) g) = fun k => (N k).bind (jnk g) from funext fun k => jn_jnk _ _]
 exact Ev.bind (F := fun _ => jnk g) h (Ev.const r)
theorem Q256 {m : Int} (h0 : 0 ≤ m) (h1 : m < (f.length : Int)) (ha : (gt f m).A = m - 1) {e : List Q2} {F : PS → PS} {J : PS → Prop} (μ : BitVec 64 → Nat)
 (hround : ∀ e1 u S, e1.length = f.length → (∀ q, m < q → gt e1 q = gt e q) → gt e1 m = S1 u → Ws u S → J S →
  ∃ e' v, Ev (fun k => Q11.n k n holds next f to (Wd al) 0 0 0 e1 (m - 1)) (e', Wd v, 0, 0, 0) ∧ e'.length = f.length ∧ (∀ q, m - 1 < q → gt e' q = gt e1 q) ∧ Ws v (F S))
 (hJ : ∀ S u v, J S → Ws u S → Ws v (F S) → v ≠ u → J (F S) ∧ μ v < μ u) : ∀ (d : Nat) (e1 : List Q2) (u : BitVec 64) (S : PS), μ u ≤ d → e1.length = f.length → (∀ q, m < q → gt e1 q = gt e q) → gt e1 m = S1 u → Ws u S → J S →
  ∃ e' v S', Ev (fun k => iter (fun t_ : List Q2 => Q19.l0b n holds next f to (Wd al) 0 0 0 m (Q11.n k) t_) e1) (.inr (e', Wd v, 0, 0, 0)) ∧ e'.length = f.length ∧ (∀ q, m < q → gt e' q = gt e q) ∧ Ws v (F S') ∧ Ws v S' ∧ J S' := by
 intro d
 induction d with
 | zero =>
  intro e1 u S hd hl hfr hg hu hS
  obtain ⟨e', v, hev, hl', hfr', hv⟩ := hround e1 u S hl hfr hg hu hS
  have huv : v = u := Classical.byContradiction fun h => by have := (hJ S u v hS hu hv h).2; omega
  refine ⟨e', v, S, Ev.iter_end ?_, hl', fun q hq => (hfr' q (by omega)).trans (hfr q hq), hv, by rw [huv]; exact hu, hS⟩
  simp only [Q19.l0b, if_pos (And.intro h0 h1), ha]
  refine Ev.bind hev ?_
  have hgm := (hfr' m (by omega)).trans hg
  simp only [hgm, huv]
  simp only [decide_true, Bool.and_self, if_true]
  exact Ev.const _
 | succ d ihd =>
  intro e1 u S hd hl hfr hg hu hS
  obtain ⟨e', v, hev, hl', hfr', hv⟩ := hround e1 u S hl hfr hg hu hS
  have hgm := (hfr' m (by omega)).trans hg
  by_cases huv : v = u
  ·refine ⟨e', v, S, Ev.iter_end ?_, hl', fun q hq => (hfr' q (by omega)).trans (hfr q hq), hv, by rw [huv]; exact hu, hS⟩
   simp only [Q19.l0b, if_pos (And.intro h0 h1), ha]
   refine Ev.bind hev ?_
   simp only [hgm, huv]
   simp only [decide_true, Bool.and_self, if_true]
   exact Ev.const _
  ·obtain ⟨hJ', hμ⟩ := hJ S u v hS hu hv huv
   obtain ⟨e2, v2, S2, g1, g2, g3, g4, g5, g6⟩ := ihd (st e' m (S1 v)) v (F S) (by omega) (by rw [Q102, hl']) (fun q hq => by
    rw [Q86 h0 (by omega) (by omega), if_neg (by omega)]
    exact (hfr' q (by omega)).trans (hfr q hq)) (by rw [Q86 h0 (by omega) h0, if_pos rfl]) hv hJ'
   refine ⟨e2, v2, S2, Ev.iter_step (s' := st e' m (S1 v)) ?_ g1, g2, g3, g4, g5, g6⟩
   simp only [Q19.l0b, if_pos (And.intro h0 h1), ha]
   refine Ev.bind hev ?_
   have hne : ¬ Wd v = Wd u := fun h => huv (Wd.inj h)
   simp only [hgm, decide_eq_false hne, Bool.false_and, Bool.false_eq_true, if_false]
   exact Ev.const _
theorem node_run (T : Tb n holds next C) (hal : Ws al C.all) {sc : List (Int × Bool)} {l m : Int} (b : Bd f to sc l m) : to.length = f.length → (∀ p ∈ sc, m < p.1 ∧ p.1 < (f.length : Int)) → ∀ (e : List Q2) (E : Int → PS), e.length = f.length → (∀ p ∈ sc, EnvD C e E p.1) →
 ∃ e' v, Ev (fun k => Q11.n k n holds next f to (Wd al) 0 0 0 e m) (e', Wd v, 0, 0, 0) ∧ NdR C m f e (den C f to m E) e' v := by
 induction b with
 | @var sc m h0 h1 hk hs =>
  intro hto hsc e E he hE
  obtain ⟨v, hv, hw, _⟩ := hE _ hs
  have := hsc _ hs
  dsimp only at hv hw this
  refine ⟨e, v, Ev.succ rfl (fun k => rfl) ?_, he, fun _ _ => rfl, by rw [Q154 hk]; exact hw⟩
  have hg : Q11.g = Q11.g := rfl
  show Ev (fun k => Q11.g _ _ n holds next f to (Wd al) 0 0 0 e m) _
  simp only [Q11.g, if_pos (And.intro h0 h1), hk, hto, he, if_pos (show 0 ≤ gt to m ∧ gt to m < (f.length : Int) by omega), hv]
  simp
  exact Ev.const _
 | @leaf sc m h0 h1 hk h4 =>
  intro hto hsc e E he hE
  obtain ⟨v, hv, hw⟩ := T.ho (gt f m).Name
  rcases hk with hk | hk | hk | hk | hk
  ·refine ⟨e, al, Ev.succ rfl (fun k => rfl) ?_, he, fun _ _ => rfl, by rw [Q159 hk]; exact hal⟩
   show Ev (fun k => Q11.g _ _ n holds next f to (Wd al) 0 0 0 e m) _
   simp only [Q11.g, if_pos (And.intro h0 h1), hk]
   exact Ev.const _
  ·refine ⟨e, 0#64, Ev.succ rfl (fun k => rfl) ?_, he, fun _ _ => rfl, by rw [Q163 hk]; exact Ws.none⟩
   show Ev (fun k => Q11.g _ _ n holds next f to (Wd al) 0 0 0 e m) _
   simp only [Q11.g, if_pos (And.intro h0 h1), hk]
   exact Ev.const _
  ·refine ⟨e, v, Ev.succ rfl (fun k => rfl) ?_, he, fun _ _ => rfl, by rw [Q155 hk]; exact hw⟩
   show Ev (fun k => Q11.g _ _ n holds next f to (Wd al) 0 0 0 e m) _
   simp only [Q11.g, if_pos (And.intro h0 h1), hk, hv, Option.bind_some]
   exact Ev.const _
  ·exact absurd hk h4
  ·refine ⟨e, al &&& ~~~ v, Ev.succ rfl (fun k => rfl) ?_, he, fun _ _ => rfl, by rw [Q160 hk]; exact hal.minus hw⟩
   show Ev (fun k => Q11.g _ _ n holds next f to (Wd al) 0 0 0 e m) _
   simp only [Q11.g, if_pos (And.intro h0 h1), hk, hv, Option.bind_some, Q215]
   exact Ev.const _
 | @not sc l m h1 hk ha s ih =>
  intro hto hsc e E he hE
  have := s.le
  obtain ⟨e', v, hev, hl, hfr, hw⟩ := ih hto (fun p hp => by
   obtain ⟨q, hq, rfl⟩ := List.mem_map.1 hp
   have := hsc q hq
   dsimp only; omega) e E he (fun p hp => by
   obtain ⟨q, hq, rfl⟩ := List.mem_map.1 hp
   exact hE q hq)
  refine ⟨e', al &&& ~~~ v, Ev.succ rfl (fun k => rfl) ?_, hl, fun q hq => hfr q (by omega), by rw [Q157 hk ha (by omega)]; exact hal.minus hw⟩
  show Ev (fun k => Q11.g (Q11.n k) (Q19.n k) n holds next f to (Wd al) 0 0 0 e m) _
  simp only [Q11.g, if_pos (And.intro (show 0 ≤ m by omega) h1), hk, ha]
  refine Ev.bind hev ?_
  simp only [Q215, Option.bind_some]
  exact Ev.const _
 | @modal sc l m h1 hk ha s ih =>
  intro hto hsc e E he hE
  have := s.le
  obtain ⟨e', v, hev, hl, hfr, hw⟩ := ih hto (fun p hp => by have := hsc p hp; omega) e E he hE
  have hin : Le (den C f to (m - 1) E) C.all := Q189 T.ok s (fun p hp => by obtain ⟨v, _, _, h⟩ := hE p hp; exact h) (fun p hp => by have := hsc p hp; omega)
  rcases hk with hk | hk
  ·obtain ⟨u, hu, hwu⟩ := T.ba (gt f m).Name v _ hw hin
   refine ⟨e', u, Ev.succ rfl (fun k => rfl) ?_, hl, fun q hq => hfr q (by omega), by rw [Q167 hk ha (by omega)]; exact hwu⟩
   show Ev (fun k => Q11.g (Q11.n k) (Q19.n k) n holds next f to (Wd al) 0 0 0 e m) _
   simp only [Q11.g, if_pos (And.intro (show 0 ≤ m by omega) h1), hk, ha]
   refine Ev.bind hev ?_
   simp only [hu, Option.bind_some]
   exact Ev.const _
  ·obtain ⟨u, hu, hwu⟩ := T.ba (gt f m).Name (al &&& ~~~ v) _ (hal.minus hw) (fun s h => h.1)
   refine ⟨e', al &&& ~~~ u, Ev.succ rfl (fun k => rfl) ?_, hl, fun q hq => hfr q (by omega), ?_⟩
   ·show Ev (fun k => Q11.g (Q11.n k) (Q19.n k) n holds next f to (Wd al) 0 0 0 e m) _
    simp only [Q11.g, if_pos (And.intro (show 0 ≤ m by omega) h1), hk, ha]
    refine Ev.bind hev ?_
    simp only [Q215, hu, Option.bind_some]
    exact Ev.const _
   ·rw [Q151 hk ha (by omega)]
    have h := hal.minus hwu
    have e1 : (fun s => C.all s ∧ ∀ t, C.edge (gt f m).Name s t → den C f to (m - 1) E t) = fun s => C.all s ∧ ¬ ∃ t, C.edge (gt f m).Name s t ∧ C.all t ∧ ¬ den C f to (m - 1) E t := by
     funext s
     refine propext (and_congr_right fun _ => ?_)
     constructor
     ·rintro h ⟨t, h1, _, h3⟩; exact h3 (h t h1)
     ·intro h t ht
      exact Classical.byContradiction fun hn => h ⟨t, ht, (T.ok.edge _ _ _ ht).2, hn⟩
    rw [e1]
    exact h
 | @fix sc l m h1 hk ha s ih =>
  intro hto hsc e E he hE
  have sl := s.le
  have n1 := T.n1
  have hall : ∀ S : PS, Le S C.all → ∀ s, S s → 0 ≤ s ∧ s < n := fun S h s hs => by have := h s hs; unfold Ctx.all at this; rw [T.N] at this; exact this
  have hsc' : ∀ p ∈ (m, true) :: sc, m - 1 < p.1 ∧ p.1 < (f.length : Int) := fun p hp => by
   rcases List.mem_cons.1 hp with rfl | hp
   ·dsimp only; omega
   ·have := hsc p hp; omega
  have hround : ∀ e1 u S, e1.length = f.length → (∀ q, m < q → gt e1 q = gt e q) → gt e1 m = S1 u → Ws u S → Le S C.all →
   ∃ e' v, Ev (fun k => Q11.n k n holds next f to (Wd al) 0 0 0 e1 (m - 1)) (e', Wd v, 0, 0, 0) ∧ e'.length = f.length ∧ (∀ q, m - 1 < q → gt e' q = gt e1 q) ∧ Ws v (den C f to (m - 1) (updE E m S)) := fun e1 u S hl hfr hg hu hS =>
   ih hto hsc' e1 (updE E m S) hl (fun p hp => by
    rcases List.mem_cons.1 hp with rfl | hp
    ·exact ⟨u, hg, by dsimp only; rw [Q139]; exact hu, by dsimp only; rw [Q139]; exact hS⟩
    ·have := hsc p hp
     obtain ⟨v, h1, h2, h3⟩ := hE p hp
     refine ⟨v, (hfr _ (by omega)).trans h1, ?_, ?_⟩ <;> rw [Q127 (by omega)] <;> assumption)
  have hin : ∀ S, Le S C.all → Le (den C f to (m - 1) (updE E m S)) C.all := fun S hS => Q189 T.ok s (fun p hp => by
   rcases List.mem_cons.1 hp with rfl | hp
   ·rw [Q139]; exact hS
   ·have := hsc p hp
    rw [Q127 (by omega)]
    obtain ⟨v, _, _, h⟩ := hE p hp
    exact h) (fun p hp => (hsc' p hp).1)
  have hmono : ∀ S S', Le S S' → Le (den C f to (m - 1) (updE E m S)) (den C f to (m - 1) (updE E m S')) := fun S S' h =>
   Q224 s (fun p hp => (hsc' p hp).1) ((Way.rfl sc E).cons (fun p hp => by have := hsc p hp; omega) h)
  have hup : ∀ q, m < q → gt (st e m (S1 0#64)) q = gt e q := fun q hq => by rw [Q86 (by omega) (by omega) (by omega), if_neg (by omega)]
  have hup' : ∀ q, m < q → gt (st e m (S1 al)) q = gt e q := fun q hq => by rw [Q86 (by omega) (by omega) (by omega), if_neg (by omega)]
  have hfix : ∀ (a b : BitVec 64) (D : PS) (e' : List Q2), Ev (fun k => iter (fun t_ : List Q2 => Q19.l0b n holds next f to (Wd al) 0 0 0 m (Q11.n k) t_) (st e m (S1 a))) (.inr (e', Wd b, 0, 0, 0)) →
   Ev (fun k => Q19.n k n holds next f to (Wd al) 0 0 0 e m (Wd a) 0 0 0) (e', Wd b, 0, 0, 0) := fun a b D e' h => by
   refine Ev.succ rfl (fun k => rfl) ?_
   show Ev (fun k => Q19.g (Q11.n k) (Q19.n k) n holds next f to (Wd al) 0 0 0 e m (Wd a) 0 0 0) _
   simp only [Q19.g, Q19.l0, he, if_pos (And.intro (show 0 ≤ m by omega) h1)]
   exact Ev.jn_inr h
  rcases hk with hk | hk
  ·obtain ⟨e', v, S', g1, g2, g3, g4, g5, g6, g7, g8⟩ := Q256 (n := n) (holds := holds) (next := next) (to := to) (al := al) (show 0 ≤ m by omega) h1 ha (e := e) (F := fun S => den C f to (m - 1) (updE E m S)) (J := fun S => Le S C.all ∧ Le S (den C f to (m - 1) (updE E m S)) ∧ Le S (lfp fun S => den C f to (m - 1) (updE E m S))) (fun u => 2 ^ 64 - u.toNat)
    (fun e1 u S hl hfr hg hu hS => hround e1 u S hl hfr hg hu hS.1) (fun S u v hS hu hv hne => ⟨⟨hin S hS.1, hmono _ _ hS.2.1, fun s hs => Q196 hmono s (hmono _ _ hS.2.2 s hs)⟩, by
     have := hu.lt hv hS.2.1 (fun h => hne h.symm)
     have := v.isLt
     omega⟩) (2 ^ 64) (st e m (S1 0#64)) 0#64 (fun _ => False) (by omega) (by rw [Q102, he]) hup (by rw [Q86 (by omega) (by omega) (by omega), if_pos rfl]) Ws.none ⟨fun _ h => h.elim, fun _ h => h.elim, fun _ h => h.elim⟩
   have hSF : S' = den C f to (m - 1) (updE E m S') := Ws.eq (n := n) (by omega) g5 g4 (hall _ g6) (hall _ (hin _ g6))
   refine ⟨e', v, Ev.succ rfl (fun k => rfl) ?_, g2, g3, ?_⟩
   ·show Ev (fun k => Q11.g (Q11.n k) (Q19.n k) n holds next f to (Wd al) 0 0 0 e m) _
    simp only [Q11.g, if_pos (And.intro (show 0 ≤ m by omega) h1), hk]
    exact Ev.bind (hfix 0#64 v (fun _ => False) e' g1) (Ev.const _)
   ·rw [Q158 hk ha (by omega)]
    have : S' = lfp fun S => den C f to (m - 1) (updE E m S) := funext fun s => propext ⟨g8 s, fun h => h S' fun t ht => by rw [hSF]; exact ht⟩
    rw [← this]
    exact g5
  ·obtain ⟨e', v, S', g1, g2, g3, g4, g5, g6, g7, g8⟩ := Q256 (n := n) (holds := holds) (next := next) (to := to) (al := al) (show 0 ≤ m by omega) h1 ha (e := e) (F := fun S => den C f to (m - 1) (updE E m S)) (J := fun S => Le S C.all ∧ Le (den C f to (m - 1) (updE E m S)) S ∧ Le (gfp fun S s => C.all s ∧ den C f to (m - 1) (updE E m S) s) S) (fun u => u.toNat)
    (fun e1 u S hl hfr hg hu hS => hround e1 u S hl hfr hg hu hS.1) (fun S u v hS hu hv hne => ⟨⟨hin S hS.1, hmono _ _ hS.2.1, fun s hs => hmono _ _ hS.2.2 s (gfp_post (F := fun S s => C.all s ∧ den C f to (m - 1) (updE E m S) s) (fun S S' h s hs => ⟨hs.1, hmono _ _ h s hs.2⟩) s hs).2⟩, hv.lt hu hS.2.1 hne⟩) al.toNat (st e m (S1 al)) al C.all (by omega) (by rw [Q102, he]) hup' (by rw [Q86 (by omega) (by omega) (by omega), if_pos rfl]) hal ⟨fun _ h => h, hin _ (fun _ h => h), fun s ⟨S, hS, hs⟩ => (hS s hs).1⟩
   have hSF : S' = den C f to (m - 1) (updE E m S') := Ws.eq (n := n) (by omega) g5 g4 (hall _ g6) (hall _ (hin _ g6))
   refine ⟨e', v, Ev.succ rfl (fun k => rfl) ?_, g2, g3, ?_⟩
   ·show Ev (fun k => Q11.g (Q11.n k) (Q19.n k) n holds next f to (Wd al) 0 0 0 e m) _
    simp only [Q11.g, if_pos (And.intro (show 0 ≤ m by omega) h1), hk]
    exact Ev.bind (hfix al v (fun _ => False) e' g1) (Ev.const _)
   ·rw [Q162 hk ha (by omega)]
    have : S' = gfp fun S s => C.all s ∧ den C f to (m - 1) (updE E m S) s := funext fun s => propext ⟨fun h => ⟨S', fun t ht => ⟨g6 t ht, by rw [← hSF]; exact ht⟩, h⟩, g8 s⟩
    rw [← this]
    exact g5
 | @two sc l q m h1 hk ha hb s t ih1 ih2 =>
  intro hto hsc e E he hE
  have := s.le
  have := t.le
  obtain ⟨e1, v1, hev1, hl1, hfr1, hw1⟩ := ih1 hto (fun p hp => by have := hsc p hp; omega) e E he hE
  obtain ⟨e2, v2, hev2, hl2, hfr2, hw2⟩ := ih2 hto (fun p hp => by have := hsc p hp; omega) e1 E hl1 (fun p hp => by
   obtain ⟨v, h1, h2⟩ := hE p hp
   have := hsc p hp
   exact ⟨v, (hfr1 _ (by omega)).trans h1, h2⟩)
  have hfr : ∀ w, m < w → gt e2 w = gt e w := fun w hw => (hfr2 w (by omega)).trans (hfr1 w (by omega))
  rcases hk with hk | hk
  ·refine ⟨e2, v1 &&& v2, Ev.succ rfl (fun k => rfl) ?_, hl2, hfr, by rw [Q156 hk ha hb (by omega) (by omega)]; exact hw1.and hw2⟩
   show Ev (fun k => Q11.g (Q11.n k) (Q19.n k) n holds next f to (Wd al) 0 0 0 e m) _
   simp only [Q11.g, if_pos (And.intro (show 0 ≤ m by omega) h1), hk, ha, hb]
   refine Ev.bind hev1 (Ev.bind hev2 ?_)
   simp only [Q95.f, Q184, band00, Option.bind_some]
   exact Ev.const _
  ·refine ⟨e2, v1 ||| v2, Ev.succ rfl (fun k => rfl) ?_, hl2, hfr, by rw [Q165 hk ha hb (by omega) (by omega)]; exact hw1.or hw2⟩
   show Ev (fun k => Q11.g (Q11.n k) (Q19.n k) n holds next f to (Wd al) 0 0 0 e m) _
   simp only [Q11.g, if_pos (And.intro (show 0 ≤ m by omega) h1), hk, ha, hb]
   refine Ev.bind hev1 (Ev.bind hev2 ?_)
   simp only [Q128.f, bor_wd, bor00, Option.bind_some]
   exact Ev.const _
end
end Go.Bw
namespace Go.Bw
open Go Go.RowKit

def wide (x : Q1) : Q1 := if x.Kind = 12 then { x with Kind := 3 } else x
theorem Q164 (x : Q1) : (wide x).A = x.A ∧ (wide x).B = x.B ∧ (wide x).Name = x.Name := by
 unfold wide
 split <;> exact ⟨rfl, rfl, rfl⟩
theorem Q137 {x : Q1} {k : Int} (h : k ≠ 3) (hk : (wide x).Kind = k) : x.Kind = k := by
 unfold wide at hk
 split at hk
 ·exact absurd hk.symm h
 ·exact hk
theorem Bd.wide_of {f g : List Q1} {to : List Int} (hl : g.length = f.length) (hg : ∀ m, 0 ≤ m → m < (f.length : Int) → gt g m = Bw.wide (gt f m)) {sc : List (Int × Bool)} {l n : Int} (b : Bd g to sc l n) : Bd f to sc l n := by
 induction b with
 | @var sc n h0 h1 hk hs =>
  rw [hl] at h1
  rw [hg n h0 h1] at hk
  exact .var h0 h1 (Q137 (by decide) hk) hs
 | @leaf sc n h0 h1 hk h4 =>
  rw [hl] at h1
  rw [hg n h0 h1] at hk h4
  refine .leaf h0 h1 ?_ fun h => h4 ?_
  ·unfold Bw.wide at hk
   unfold Leafy at hk ⊢
   split at hk <;> omega
  ·unfold Bw.wide
   rw [if_neg (by omega)]; exact h
 | @not sc l n h1 hk ha s ih =>
  have := s.le
  rw [hl] at h1
  rw [hg n (by omega) h1] at hk ha
  rw [(Q164 _).1] at ha
  exact .not h1 (Q137 (by decide) hk) ha ih
 | @modal sc l n h1 hk ha s ih =>
  have := s.le
  rw [hl] at h1
  rw [hg n (by omega) h1] at hk ha
  rw [(Q164 _).1] at ha
  exact .modal h1 (hk.imp (Q137 (by decide)) (Q137 (by decide))) ha ih
 | @fix sc l n h1 hk ha s ih =>
  have := s.le
  rw [hl] at h1
  rw [hg n (by omega) h1] at hk ha
  rw [(Q164 _).1] at ha
  exact .fix h1 (hk.imp (Q137 (by decide)) (Q137 (by decide))) ha ih
 | @two sc l m n h1 hk ha hb s t ih1 ih2 =>
  have := s.le
  have := t.le
  rw [hl] at h1
  rw [hg n (by omega) h1] at hk ha hb
  rw [(Q164 _).1] at ha
  rw [(Q164 _).2.1] at hb
  exact .two h1 (hk.imp (Q137 (by decide)) (Q137 (by decide))) ha hb ih1 ih2
theorem full_run4 {n : Int} (h0 : 1 ≤ n) (h1 : n ≤ 24) : Q69.f n = some (Wd (BitVec.ofInt 64 (2 ^ n.toNat - 1)), 0, 0, 0) := by
 have key : ∀ m : Fin 24, Q69.f ((m.1 : Int) + 1) = some (Wd (BitVec.ofInt 64 (2 ^ (m.1 + 1) - 1)), 0, 0, 0) := by decide +kernel
 have := key ⟨(n - 1).toNat, by omega⟩
 dsimp only at this
 rwa [show (((n - 1).toNat : Nat) : Int) + 1 = n by omega, show (n - 1).toNat + 1 = n.toNat by omega] at this
theorem full_ws {n : Int} (h0 : 1 ≤ n) (h1 : n ≤ 24) : Ws (BitVec.ofInt 64 (2 ^ n.toNat - 1)) (fun s => 0 ≤ s ∧ s < n) := fun i hi => by
 have key : ∀ m : Fin 25, ∀ i : Fin 64, (BitVec.ofInt 64 (2 ^ m.1 - 1)).getLsbD i.1 = decide (i.1 < m.1) := by decide +kernel
 have := key ⟨n.toNat, by omega⟩ ⟨i, hi⟩
 dsimp only at this ⊢
 rw [this, decide_eq_true_iff]
 omega
theorem eval_run (f : List Q1) (hs : ∀ n ∈ f, (n.Name.length : Int) ≤ 9223372036854775807) (hz : (0 + f.length) * 48 ≤ 140737488355328) :
 (∀ n holds next, Q64.f n holds next f = some (1, 0, 0, 0, 0)) ∨ ∃ to, 1 ≤ f.length ∧ f.length ≤ 60 ∧ to.length = f.length ∧ Bd f to [] 0 ((f.length : Int) - 1) ∧
  ∀ n holds next C, Tb n holds next C → ∃ v, Q64.f n holds next f = some (0, Wd v, 0, 0, 0) ∧ Ws v (den C f to ((f.length : Int) - 1) fun _ _ => False) := by
 obtain ⟨r, hr, g, rfl, hl, hg⟩ := Q68 (body := fun t_ : (List Q1) × Int => Q43.l0b f t_.1 t_.2) (fun s => s.1.length = f.length ∧ 0 ≤ s.2 ∧ s.2 ≤ (f.length : Int) ∧ (∀ m, 0 ≤ m → m < s.2 → gt s.1 m = wide (gt f m)) ∧ ∀ m, s.2 ≤ m → gt s.1 m = gt f m)
  (fun r => ∃ g, r = .inl g ∧ g.length = f.length ∧ ∀ m, 0 ≤ m → m < (f.length : Int) → gt g m = wide (gt f m)) (fun s => ((f.length : Int) - s.2).toNat) (fun ⟨t, i⟩ ⟨a0, a1, a2, a3, a4⟩ => by
   dsimp only at a0 a1 a2 a3 a4 ⊢
   unfold Q43.l0b
   by_cases hi : i < (f.length : Int)
   ·right
    have hx := a4 i (Int.le_refl _)
    rw [if_pos hi, if_pos ⟨a1, hi⟩, wrap64 (x := i + 1) (by omega) (by omega)]
    by_cases hk : (gt t i).Kind = 12
    ·rw [if_pos hk, Q15]
     refine ⟨_, rfl, ⟨by dsimp only; rw [Q102, a0], by dsimp only; omega, by dsimp only; omega, fun m m0 m1 => ?_, fun m m1 => ?_⟩, by dsimp only; omega⟩
     ·dsimp only at m1 ⊢
      rw [Q86 a1 (by omega) m0]
      split
      ·rename_i hmi
       rw [hmi, hx]
       unfold wide
       rw [if_pos (by rw [← hx]; exact hk)]
      ·exact a3 m m0 (by omega)
     ·dsimp only at m1 ⊢
      rw [Q86 a1 (by omega) (by omega), if_neg (by omega)]
      exact a4 m (by omega)
    ·rw [if_neg hk, Q15]
     refine ⟨_, rfl, ⟨a0, by dsimp only; omega, by dsimp only; omega, fun m m0 m1 => ?_, fun m m1 => a4 m (by dsimp only at m1; omega)⟩, by dsimp only; omega⟩
     dsimp only at m1 ⊢
     by_cases hm : m = i
     ·rw [hm, hx]
      unfold wide
      rw [if_neg (by rw [← hx]; exact hk)]
     ·exact a3 m m0 (by omega)
   ·left
    rw [if_neg hi]
    exact ⟨_, rfl, t, rfl, a0, fun m m0 m1 => a3 m m0 (by omega)⟩) (f, 0) ⟨rfl, Int.le_refl 0, by dsimp only; omega, fun m m0 m1 => by dsimp only at m1; omega, fun m _ => rfl⟩
 have hr' : Q43.l0 f f 0 = some (.inl g) := hr
 have hgs : ∀ x ∈ g, (x.Name.length : Int) ≤ 9223372036854775807 := fun x hx => by
  obtain ⟨q, hq, rfl⟩ := List.getElem_of_mem hx
  have e := hg (q : Int) (by omega) (by omega)
  rw [Q133 (List.getElem?_eq_getElem hq)] at e
  rw [e, (Q164 _).2.2]
  exact hs _ (Q42 (by omega) (by omega))
 obtain ⟨e, i, hc, hb⟩ := check_run g hgs
 by_cases he : e = 0
 ·right
  obtain ⟨to, B⟩ := hb he
  have n0 := B.n0
  have n1 := B.n1
  have bd : Bd f to [] 0 ((f.length : Int) - 1) := by have := B.bd.wide_of hl hg; rwa [hl] at this
  refine ⟨to, by omega, by omega, by rw [B.len, hl], bd, fun n holds next C T => ?_⟩
  have hal : Ws (BitVec.ofInt 64 (2 ^ n.toNat - 1)) C.all := by
   have := full_ws T.n0 T.n1
   unfold Ctx.all
   rw [T.N]
   exact this
  obtain ⟨e', v, hev, _, _, hw⟩ := node_run T hal bd (by rw [B.len, hl]) (fun p hp => by cases hp) (List.replicate (f.length : Int).toNat ⟨0, 0, 0, 0⟩) (fun _ _ => False) (by simp) (fun p hp => by cases hp)
  refine ⟨v, ?_, hw⟩
  unfold Q64.f Q43.f Q117.f
  rw [if_pos hz, Option.bind_some, hr', Q15, hc, Option.bind_some]
  simp only [he, if_true, B.bi, Option.bind_some, Q96.f, full_run4 T.n0 T.n1]
  rw [if_pos (by omega)]
  simp only [Option.bind_some]
  unfold Q11.f
  rw [wrap64 (by omega) (by omega), hev.recF]
  rfl
 ·left
  intro n holds next
  unfold Q64.f Q43.f Q117.f
  rw [if_pos hz, Option.bind_some, hr', Q15, hc, Option.bind_some]
  simp only [if_neg he, Option.bind_some]
end Go.Bw
namespace Go.Bw
open Go Go.RowKit

structure Bis (C D : Ctx) (c : Int → Int) : Prop where
 cm : ∀ s, C.all s → D.all (c s)
 onto : ∀ u, D.all u → ∃ s, C.all s ∧ c s = u
 ho : ∀ a s, C.all s → (C.holds a s ↔ D.holds a (c s))
 fw : ∀ a s t, C.edge a s t → D.edge a (c s) (c t)
 bk : ∀ a s w, C.all s → D.edge a (c s) w → ∃ t, C.edge a s t ∧ c t = w
theorem den_bis {C D : Ctx} (hC : C.Ok) (hD : D.Ok) {c : Int → Int} (B : Bis C D c) {f : List Q1} {to : List Int} {sc : List (Int × Bool)} {l n : Int} (b : Bd f to sc l n) : (∀ p ∈ sc, n < p.1) → ∀ {E E' : Int → PS},
 (∀ p ∈ sc, Le (E p.1) C.all) → (∀ p ∈ sc, Le (E' p.1) D.all) → (∀ p ∈ sc, ∀ s, C.all s → (E p.1 s ↔ E' p.1 (c s))) → ∀ s, C.all s → (den C f to n E s ↔ den D f to n E' (c s)) := by
 induction b with
 | @var sc n h0 h1 hk hs => intro hn E E' hE hE' h s hs'; rw [Q154 hk, Q154 hk]; exact h _ hs s hs'
 | @leaf sc n h0 h1 hk h4 =>
  intro hn E E' hE hE' h s hs
  rcases hk with hk | hk | hk | hk | hk
  ·rw [Q159 hk, Q159 hk]; exact ⟨fun _ => B.cm s hs, fun _ => hs⟩
  ·rw [Q163 hk, Q163 hk]
  ·rw [Q155 hk, Q155 hk]; exact B.ho _ s hs
  ·exact absurd hk h4
  ·rw [Q160 hk, Q160 hk]
   exact and_congr ⟨fun _ => B.cm s hs, fun _ => hs⟩ (not_congr (B.ho _ s hs))
 | @not sc l n h1 hk ha s ih =>
  intro hn E E' hE hE' h q hq
  have := s.le
  rw [Q157 hk ha (by omega), Q157 hk ha (by omega)]
  refine and_congr ⟨fun _ => B.cm q hq, fun _ => hq⟩ (not_congr (ih ?_ ?_ ?_ ?_ q hq)) <;> intro p hp <;> obtain ⟨p', hp', rfl⟩ := List.mem_map.1 hp
  ·have := hn p' hp'; dsimp only; omega
  ·exact hE p' hp'
  ·exact hE' p' hp'
  ·exact h p' hp'
 | @modal sc l n h1 hk ha s ih =>
  intro hn E E' hE hE' h q hq
  have := s.le
  have ih := ih (fun p hp => by have := hn p hp; omega) hE hE' h
  rcases hk with hk | hk
  ·rw [Q167 hk ha (by omega), Q167 hk ha (by omega)]
   constructor
   ·rintro ⟨t, h1, h2⟩
    exact ⟨c t, B.fw _ _ _ h1, (ih t (hC.edge _ _ _ h1).2).1 h2⟩
   ·rintro ⟨w, h1, h2⟩
    obtain ⟨t, h3, rfl⟩ := B.bk _ _ _ hq h1
    exact ⟨t, h3, (ih t (hC.edge _ _ _ h3).2).2 h2⟩
  ·rw [Q151 hk ha (by omega), Q151 hk ha (by omega)]
   refine and_congr ⟨fun _ => B.cm q hq, fun _ => hq⟩ ?_
   constructor
   ·intro hh w hw
    obtain ⟨t, h3, rfl⟩ := B.bk _ _ _ hq hw
    exact (ih t (hC.edge _ _ _ h3).2).1 (hh t h3)
   ·intro hh t ht
    exact (ih t (hC.edge _ _ _ ht).2).2 (hh _ (B.fw _ _ _ ht))
 | @fix sc l n h1 hk ha s ih =>
  intro hn E E' hE hE' h q hq
  have sl := s.le
  have hn' : ∀ p ∈ (n, true) :: sc, n - 1 < p.1 := fun p hp => by
   rcases List.mem_cons.1 hp with rfl | hp
   ·dsimp only; omega
   ·have := hn p hp; omega
  have cons : ∀ {A : Ctx} {X : Int → PS} {S : PS}, (∀ p ∈ sc, Le (X p.1) A.all) → Le S A.all → ∀ p ∈ (n, true) :: sc, Le (updE X n S p.1) A.all := fun hX hS p hp => by
   rcases List.mem_cons.1 hp with rfl | hp
   ·rw [Q139]; exact hS
   ·rw [Q127 (by have := hn p hp; omega)]; exact hX p hp
  have inC : ∀ S, Le S C.all → Le (den C f to (n - 1) (updE E n S)) C.all := fun S hS => Q189 hC s (cons hE hS) hn'
  have inD : ∀ S, Le S D.all → Le (den D f to (n - 1) (updE E' n S)) D.all := fun S hS => Q189 hD s (cons hE' hS) hn'
  have moC : ∀ S S', Le S S' → Le (den C f to (n - 1) (updE E n S)) (den C f to (n - 1) (updE E n S')) := fun S S' h => Q224 s hn' ((Way.rfl sc E).cons (fun p hp => by have := hn p hp; omega) h)
  have moD : ∀ S S', Le S S' → Le (den D f to (n - 1) (updE E' n S)) (den D f to (n - 1) (updE E' n S')) := fun S S' h => Q224 s hn' ((Way.rfl sc E').cons (fun p hp => by have := hn p hp; omega) h)
  have IH : ∀ S S' : PS, Le S C.all → Le S' D.all → (∀ s, C.all s → (S s ↔ S' (c s))) → ∀ s, C.all s → (den C f to (n - 1) (updE E n S) s ↔ den D f to (n - 1) (updE E' n S') (c s)) := fun S S' hS hS' hh =>
   ih hn' (cons hE hS) (cons hE' hS') (fun p hp => by
    rcases List.mem_cons.1 hp with rfl | hp
    ·rw [Q139, Q139]; exact hh
    ·rw [Q127 (by have := hn p hp; omega), Q127 (by have := hn p hp; omega)]; exact h p hp)
  rcases hk with hk | hk
  ·rw [Q158 hk ha (by omega), Q158 hk ha (by omega)]
   have lD : Le (lfp fun S => den D f to (n - 1) (updE E' n S)) D.all := fun u hu => hu D.all (inD _ fun _ h => h)
   have lC : Le (lfp fun S => den C f to (n - 1) (updE E n S)) C.all := fun u hu => hu C.all (inC _ fun _ h => h)
   constructor
   ·intro hs
    refine (hs (fun s => C.all s ∧ lfp (fun S => den D f to (n - 1) (updE E' n S)) (c s)) fun t ht => ?_).2
    have ta := inC _ (fun _ h => h.1) t ht
    exact ⟨ta, Q196 moD _ ((IH _ _ (fun _ h => h.1) lD (fun s hs => ⟨fun h => h.2, fun h => ⟨hs, h⟩⟩) t ta).1 ht)⟩
   ·intro hs
    refine (hs (fun u => D.all u ∧ ∀ s, C.all s → c s = u → lfp (fun S => den C f to (n - 1) (updE E n S)) s) fun u hu => ⟨inD _ (fun _ h => h.1) u hu, fun t ht htu => ?_⟩).2 q hq rfl
    subst htu
    refine Q196 moC _ (moC (fun s => C.all s ∧ D.all (c s) ∧ ∀ s', C.all s' → c s' = c s → lfp (fun S => den C f to (n - 1) (updE E n S)) s') _ (fun s h => h.2.2 s h.1 rfl) t ?_)
    exact (IH _ _ (fun _ h => h.1) (fun _ h => h.1) (fun s hs => ⟨fun h => h.2, fun h => ⟨hs, h⟩⟩) t ht).2 hu
  ·rw [Q162 hk ha (by omega), Q162 hk ha (by omega)]
   constructor
   ·rintro ⟨S, hS, hs⟩
    refine ⟨fun u => D.all u ∧ ∃ s, C.all s ∧ c s = u ∧ S s, fun u hu => ⟨hu.1, ?_⟩, B.cm q hq, q, hq, rfl, hs⟩
    obtain ⟨_, t, ht, rfl, hSt⟩ := hu
    refine (IH (fun s => C.all s ∧ D.all (c s) ∧ ∃ s', C.all s' ∧ c s' = c s ∧ S s') _ (fun _ h => h.1) (fun _ h => h.1) (fun s hs => ⟨fun h => h.2, fun h => ⟨hs, h⟩⟩) t ht).1 ?_
    exact moC S _ (fun s h => ⟨(hS s h).1, B.cm s (hS s h).1, s, (hS s h).1, rfl, h⟩) t (hS t hSt).2
   ·rintro ⟨S, hS, hs⟩
    refine ⟨fun s => C.all s ∧ S (c s), fun t ht => ⟨ht.1, ?_⟩, hq, hs⟩
    exact (IH _ S (fun _ h => h.1) (fun u h => (hS u h).1) (fun s hs => ⟨fun h => h.2, fun h => ⟨hs, h⟩⟩) t ht.1).2 (hS _ ht.2).2
 | @two sc l m n h1 hk ha hb s t ih1 ih2 =>
  intro hn E E' hE hE' h q hq
  have := s.le
  have := t.le
  have ih1 := ih1 (fun p hp => by have := hn p hp; omega) hE hE' h q hq
  have ih2 := ih2 (fun p hp => by have := hn p hp; omega) hE hE' h q hq
  rcases hk with hk | hk
  ·rw [Q156 hk ha hb (by omega) (by omega), Q156 hk ha hb (by omega) (by omega)]
   exact and_congr ih1 ih2
  ·rw [Q165 hk ha hb (by omega) (by omega), Q165 hk ha hb (by omega) (by omega)]
   exact or_congr ih1 ih2
end Go.Bw
namespace Go.Bw
open Go Go.RowKit

theorem shr_wd (v : BitVec 64) {s : Int} (h0 : 0 ≤ s) (h1 : s < 64) : Bw.shr .u64 (Wd v) s = Wd (v >>> s.toNat) := by
 have hs : min s.toNat IntKind.u64.bits = s.toNat := Nat.min_eq_left (show s.toNat ≤ 64 by omega)
 unfold Bw.shr Wd
 rw [hs, Int.fdiv_eq_ediv_of_nonneg _ (Int.pow_nonneg (by decide)), BitVec.toNat_ushiftRight, Nat.shiftRight_eq_div_pow]
 have : (2 : Int) ^ s.toNat = ((2 ^ s.toNat : Nat) : Int) := by rw [Int.natCast_pow]; rfl
 rw [this]
 rfl
theorem wd_zero {v : BitVec 64} : Wd v = 0 ↔ v = 0#64 := by
 constructor
 ·intro h; exact Wd.inj (h.trans rfl)
 ·rintro rfl; rfl
theorem bit_wd (v : BitVec 64) {s : Int} (h0 : 0 ≤ s) (h1 : s < 64) : band .u64 (Bw.shr .u64 (Wd v) s) 1 = 1 ↔ v.getLsbD s.toNat = true := by
 rw [shr_wd v h0 h1, show (1 : Int) = Wd 1#64 from rfl, Q184]
 constructor
 ·intro h
  have := Wd.inj h
  have h2 := congrArg (fun z => z.getLsbD 0) this
  simpa using h2
 ·intro h
  congr 1
  apply BitVec.eq_of_getLsbD_eq
  intro i hi
  rw [BitVec.getLsbD_and, BitVec.getLsbD_ushiftRight]
  by_cases hi0 : i = 0
  ·subst hi0; simp [h]
  ·have : (1#64).getLsbD i = false := by simp [hi0]
   rw [this]; simp
theorem Q220 {κ ν : Type} [DecidableEq κ] : ∀ (m : List (κ × ν)) (k k' : κ) (v : ν), mget (mset m k v) k' = if k = k' then some v else mget m k'
 | [], k, k', v => by unfold mset mget; split <;> rfl
 | p :: r, k, k', v => by
  unfold mset
  by_cases h : p.1 = k
  ·rw [if_pos h]
   unfold mget
   by_cases h2 : k = k'
   ·simp [h2]
   ·rw [if_neg h2, if_neg h2, if_neg (fun h3 => h2 (h.symm.trans h3))]
  ·rw [if_neg h]
   unfold mget
   by_cases h2 : p.1 = k'
   ·rw [if_pos h2, if_pos h2, if_neg (fun h3 => h (h2.trans h3.symm))]
   ·rw [if_neg h2, if_neg h2, Q220 r k k' v]
def Hit (x : List Bs) (E : List Q3) (k : Q8) (t : Int) : Prop := ∃ e ∈ E, e.From = k.from_ ∧ e.To = t ∧ (gt x e.Action = k.action ∨ k.action = [45])
abbrev set0 : Q2 := ⟨(0 : Int), (0 : Int), (0 : Int), (0 : Int)⟩
def W4.s (u : W4) : Q2 := ⟨Wd u.a, Wd u.b, Wd u.c, Wd u.d⟩
def Nx (x : List Bs) (E : List Q3) (m : List (Q8 × Q2)) : Prop := ∀ k, ∃ u : W4, (mget m k).getD set0 = u.s ∧ u.Rep (Hit x E k)
theorem put_hit {m : List (Q8 × Q2)} {S : Q8 → Int → Prop} (h : ∀ k, ∃ u : W4, (mget m k).getD set0 = u.s ∧ u.Rep (S k)) {k0 : Q8} {t : Int} (h0 : 0 ≤ t) (h1 : t < 256) {u : W4} (hu : (mget m k0).getD set0 = u.s) :
 ∀ k, ∃ u' : W4, (mget (mset m k0 (u.put t).s) k).getD set0 = u'.s ∧ u'.Rep (fun n => S k n ∨ k0 = k ∧ n = t) := fun k => by
 rw [Q220]
 by_cases hk : k0 = k
 ·subst hk
  rw [if_pos rfl]
  obtain ⟨v, hv, hr⟩ := h k0
  rw [hu] at hv
  have : u = v := by
   cases u; cases v
   simp only [W4.s, Q2.mk.injEq] at hv
   rw [Wd.inj hv.1, Wd.inj hv.2.1, Wd.inj hv.2.2.1, Wd.inj hv.2.2.2]
  subst this
  refine ⟨u.put t, rfl, fun n n0 n1 => ?_⟩
  rw [W4.put_rep hr h0 h1 n n0 n1]
  simp
 ·rw [if_neg hk]
  obtain ⟨v, hv, hr⟩ := h k
  refine ⟨v, hv, fun n n0 n1 => ?_⟩
  rw [hr n n0 n1]
  simp [hk]
theorem l2_run (x : List Bs) (y : List Q3) {j : Int} (hj : 0 ≤ j) (hj2 : j < (y.length : Int)) {E : List Q3} {m : List (Q8 × Q2)} (hm : Nx x E m) (ht : 0 ≤ (gt y j).To ∧ (gt y j).To < 256) :
 ∃ m', Q16.l2 x y j m 0 = some (.inl m') ∧ Nx x (E ++ [gt y j]) m' := by
 unfold Q16.l2
 rw [Q67]
 have w1 : IntKind.i64.wrap (0 + 1) = 1 := wrap64 (by decide) (by decide)
 have w2 : IntKind.i64.wrap (1 + 1) = 2 := wrap64 (by decide) (by decide)
 have g0 : gt [gt x (gt y j).Action, ([45] : Bs)] 0 = gt x (gt y j).Action := rfl
 have g1 : gt [gt x (gt y j).Action, ([45] : Bs)] 1 = [45] := rfl
 obtain ⟨u1, e1, r1⟩ := hm ⟨(gt y j).From, gt x (gt y j).Action⟩
 have s1 := put_hit hm ht.1 ht.2 e1
 obtain ⟨u2, e2, r2⟩ := s1 ⟨(gt y j).From, [45]⟩
 have s2 := put_hit s1 ht.1 ht.2 e2
 refine ⟨mset (mset m ⟨(gt y j).From, gt x (gt y j).Action⟩ (u1.put (gt y j).To).s) ⟨(gt y j).From, [45]⟩ (u2.put (gt y j).To).s, ?_, fun k => ?_⟩
 rotate_left
 ·obtain ⟨u3, e3, r3⟩ := s2 k
  refine ⟨u3, e3, fun n n0 n1 => ?_⟩
  rw [r3 n n0 n1]
  unfold Hit
  constructor
  ·rintro ((⟨e, he, q⟩ | ⟨rfl, rfl⟩) | ⟨rfl, rfl⟩)
   ·exact ⟨e, by simp [he], q⟩
   ·exact ⟨gt y j, by simp, rfl, rfl, .inl rfl⟩
   ·exact ⟨gt y j, by simp, rfl, rfl, .inr rfl⟩
  ·rintro ⟨e, he, q1, q2, q3⟩
   rcases List.mem_append.1 he with he | he
   ·exact .inl (.inl ⟨e, he, q1, q2, q3⟩)
   ·simp at he
    subst he
    rcases q3 with q3 | q3
    ·exact .inl (.inr ⟨by rw [q1, q3], q2.symm⟩)
    ·exact .inr ⟨by rw [q1, ← q3], q2.symm⟩
 ·simp only [Q16.l2b]
  rw [if_pos (by simp), if_pos (by simp), g0, e1]
  simp only [W4.s, Q176, if_pos ht, Option.bind_some, nx, w1]
  rw [Q67]
  simp only [Q16.l2b]
  rw [if_pos (by simp), if_pos (by simp), g1]
  have e2' : (mget (mset m ({ from_ := (gt y j).From, action := gt x (gt y j).Action } : Q8) ({ c0 := (u1.put (gt y j).To).t.1, c1 := (u1.put (gt y j).To).t.2.1, c2 := (u1.put (gt y j).To).t.2.2.1, c3 := (u1.put (gt y j).To).t.2.2.2 } : Q2)) { from_ := (gt y j).From, action := [45] }).getD set0 = u2.s := e2
  rw [e2']
  simp only [W4.s, Q176, if_pos ht, Option.bind_some, nx, w2]
  rw [Q67]
  simp only [Q16.l2b]
  rw [if_neg (by simp)]
  rfl
theorem l1_run (n : Int) (x : List Bs) (y : List Q3) (hy : (y.length : Int) ≤ 9223372036854775807) (he : ∀ e ∈ y, EdgeIn n x.length e) (hn : n ≤ 24) :
 ∃ m, Q16.l1 x y [] 0 = some (.inl m) ∧ Nx x y m := by
 obtain ⟨r, hr, m, rfl, hm⟩ := Q68 (body := fun t_ : List (Q8 × Q2) × Int => Q16.l1b x y t_.1 t_.2) (fun s => 0 ≤ s.2 ∧ s.2 ≤ (y.length : Int) ∧ Nx x (y.take s.2.toNat) s.1)
  (fun r => ∃ m, r = .inl m ∧ Nx x y m) (fun s => ((y.length : Int) - s.2).toNat) (fun ⟨m, i⟩ ⟨h0, h1, h2⟩ => by
   dsimp only at h0 h1 h2 ⊢
   unfold Q16.l1b
   by_cases hi : i < (y.length : Int)
   ·right
    have hE := he _ (Q42 h0 hi)
    obtain ⟨m', hm', hx⟩ := l2_run x y h0 hi h2 ⟨hE.2.2.1, by have := hE.2.2.2.1; omega⟩
    rw [if_pos hi, if_pos ⟨h0, hi⟩, if_pos hE.2.2.2.2, hm', Q15, wrap64 (x := i + 1) (by omega) (by omega)]
    refine ⟨_, rfl, ⟨by dsimp only; omega, by dsimp only; omega, ?_⟩, by dsimp only; omega⟩
    dsimp only
    rw [show (i + 1).toNat = i.toNat + 1 from by omega, List.take_add_one, Q101 h0 hi]
    exact hx
   ·left
    rw [if_neg hi]
    refine ⟨_, rfl, m, rfl, ?_⟩
    rwa [List.take_of_length_le (by omega)] at h2) ([], 0) ⟨Int.le_refl _, by dsimp only; omega, fun k => ⟨W4.z, rfl, fun n n0 n1 => by
     rw [W4.z_rep n n0 n1]
     simp [Hit]⟩⟩
 exact ⟨m, hr, hm⟩
end Go.Bw
namespace Go.Bw
open Go Go.RowKit

theorem band0 (v : BitVec 64) : band .u64 (Wd v) 0 = 0 := by
 rw [show (0 : Int) = Wd 0#64 from rfl, Q184]
 simp
def Meets (S : Int → Prop) (to : BitVec 64) : Prop := ∃ t : Nat, t < 64 ∧ S t ∧ to.getLsbD t = true
theorem Q271 {u : W4} {S : Int → Prop} (h : u.Rep S) (to : BitVec 64) : u.a &&& to = 0#64 ↔ ¬ Meets S to := by
 have hb : ∀ i : Nat, i < 64 → (u.a.getLsbD i = true ↔ S i) := fun i hi => by
  have := h i (by omega) (by omega)
  unfold W4.has W4.sel at this
  rw [show ((i : Int) / 64) = 0 from by omega, show ((i : Int) % 64).toNat = i from by omega] at this
  simpa using this
 constructor
 ·rintro h0 ⟨t, h1, h2, h3⟩
  have := congrArg (fun z => z.getLsbD t) h0
  simp [(hb t h1).2 h2, h3] at this
 ·intro hn
  apply BitVec.eq_of_getLsbD_eq
  intro i hi
  rw [BitVec.getLsbD_and]
  cases h1 : u.a.getLsbD i with
  | false => simp
  | true =>
   cases h2 : to.getLsbD i with
   | false => simp
   | true => exact absurd ⟨i, hi, (hb i hi).1 h1, h2⟩ hn
theorem back_run {x : List Bs} {y : List Q3} {next : List (Q8 × Q2)} (hx : Nx x y next) {n : Int} (hn : 0 ≤ n) (hn2 : n ≤ 24) (holds : List (Bs × Q2)) (to : BitVec 64) (a : Bs) :
 ∃ v : W4, Q33.f n holds next (Wd to) 0 0 0 a = some v.t ∧ v.Rep (fun s => 0 ≤ s ∧ s < n ∧ Meets (Hit x y ⟨s, a⟩) to) := by
 obtain ⟨r, hr, v, rfl, hv⟩ := Q68 (body := fun t_ : Int × Int × Int × Int × Int => Q33.l0b n next (Wd to) 0 0 0 a t_.1 t_.2.1 t_.2.2.1 t_.2.2.2.1 t_.2.2.2.2)
  (fun s => 0 ≤ s.2.2.2.2 ∧ s.2.2.2.2 ≤ n ∧ ∃ v : W4, (s.1, s.2.1, s.2.2.1, s.2.2.2.1) = v.t ∧ v.Rep (fun q => 0 ≤ q ∧ q < s.2.2.2.2 ∧ Meets (Hit x y ⟨q, a⟩) to))
  (fun r => ∃ v : W4, r = .inl v.t ∧ v.Rep (fun s => 0 ≤ s ∧ s < n ∧ Meets (Hit x y ⟨s, a⟩) to)) (fun s => (n - s.2.2.2.2).toNat)
  (fun ⟨w0, w1, w2, w3, i⟩ ⟨a0, a1, v, a2, a3⟩ => by
   dsimp only at a0 a1 a2 a3 ⊢
   simp only [W4.t, Prod.mk.injEq] at a2
   obtain ⟨rfl, rfl, rfl, rfl⟩ := a2
   unfold Q33.l0b
   by_cases hi : i < n
   ·right
    obtain ⟨u, hu, hur⟩ := hx ⟨i, a⟩
    rw [if_pos hi, hu, wrap64 (x := i + 1) (by omega) (by omega)]
    simp only [W4.s, Q95.f, Q184, band0, Option.bind_some, decide_true, Bool.and_true]
    by_cases hz : u.a &&& to = 0#64
    ·rw [if_pos (by rw [hz]; rfl), Q15]
     refine ⟨_, rfl, ⟨by dsimp only; omega, by dsimp only; omega, v, rfl, fun q q0 q1 => ?_⟩, by dsimp only; omega⟩
     rw [a3 q q0 q1]
     have hnm := (Q271 hur to).1 hz
     dsimp only
     constructor
     ·rintro ⟨h1, h2, h3⟩; exact ⟨h1, by omega, h3⟩
     ·rintro ⟨h1, h2, h3⟩
      refine ⟨h1, ?_, h3⟩
      have : q ≠ i := fun h => by subst h; exact hnm h3
      omega
    ·rw [if_neg (by rw [decide_eq_true_eq]; exact fun h => hz (wd_zero.1 h)), Q176, if_pos (by omega)]
     simp only [Option.bind_some, Q15]
     refine ⟨_, rfl, ⟨by dsimp only; omega, by dsimp only; omega, v.put i, rfl, fun q q0 q1 => ?_⟩, by dsimp only; omega⟩
     rw [W4.put_rep a3 a0 (by omega) q q0 q1]
     have hm : Meets (Hit x y ⟨i, a⟩) to := Classical.not_not.1 fun h => hz ((Q271 hur to).2 h)
     dsimp only
     constructor
     ·rintro (⟨h1, h2, h3⟩ | rfl)
      ·exact ⟨h1, by omega, h3⟩
      ·exact ⟨a0, by omega, hm⟩
     ·rintro ⟨h1, h2, h3⟩
      by_cases h : q = i
      ·exact .inr h
      ·exact .inl ⟨h1, by omega, h3⟩
   ·left
    rw [if_neg hi]
    refine ⟨_, rfl, v, rfl, ?_⟩
    have : i = n := by omega
    subst this
    exact a3) (0, 0, 0, 0, 0) ⟨Int.le_refl _, hn, W4.z, rfl, fun q q0 q1 => by
     rw [W4.z_rep q q0 q1]
     dsimp only
     constructor
     ·exact fun h => h.elim
     ·rintro ⟨h1, h2, _⟩; omega⟩
 refine ⟨v, ?_, hv⟩
 unfold Q33.f
 have hl : Q33.l0 n next (Wd to) 0 0 0 a 0 0 0 0 0 = some (.inl v.t) := hr
 rw [hl, Q15]
end Go.Bw
namespace Go.Bw
open Go Go.RowKit

def Hx (z : List Q4) (m : List (Bs × Q2)) : Prop := ∀ k, ∃ u : W4, (mget m k).getD set0 = u.s ∧ u.Rep (fun t => ∃ p ∈ z, p.Name = k ∧ t ∈ p.States)
theorem holds_run (z : List Q4) (hz : (z.length : Int) ≤ 9223372036854775807) (hs : ∀ p ∈ z, (p.States.length : Int) ≤ 9223372036854775807) (hd : ∀ i j : Int, 0 ≤ i → i < j → j < (z.length : Int) → (gt z i).Name ≠ (gt z j).Name) :
 ∃ m, Q16.l0 z [] 0 = some (.inl m) ∧ Hx z m := by
 obtain ⟨r, hr, m, rfl, hm⟩ := Q68 (body := fun t_ : List (Bs × Q2) × Int => Q16.l0b z t_.1 t_.2) (fun s => 0 ≤ s.2 ∧ s.2 ≤ (z.length : Int) ∧ Hx (z.take s.2.toNat) s.1)
  (fun r => ∃ m, r = .inl m ∧ Hx z m) (fun s => ((z.length : Int) - s.2).toNat) (fun ⟨m, i⟩ ⟨h0, h1, h2⟩ => by
   dsimp only at h0 h1 h2 ⊢
   unfold Q16.l0b
   by_cases hi : i < (z.length : Int)
   ·right
    obtain ⟨u, hu, hur⟩ := of_run4 (hs _ (Q42 h0 hi))
    rw [if_pos hi, if_pos ⟨h0, hi⟩, hu, wrap64 (x := i + 1) (by omega) (by omega)]
    refine ⟨_, rfl, ⟨by dsimp only; omega, by dsimp only; omega, fun k => ?_⟩, by dsimp only; omega⟩
    dsimp only
    rw [show (i + 1).toNat = i.toNat + 1 from by omega, List.take_add_one, Q101 h0 hi, Q220]
    by_cases hk : (gt z i).Name = k
    ·rw [if_pos hk]
     refine ⟨u, rfl, fun n n0 n1 => ?_⟩
     rw [hur n n0 n1]
     constructor
     ·intro h; exact ⟨gt z i, by simp, hk, h⟩
     ·rintro ⟨p, hp, e1, e2⟩
      rcases List.mem_append.1 hp with hp | hp
      ·obtain ⟨q, hq, rfl⟩ := List.getElem_of_mem hp
       have hq' : q < i.toNat := by simp at hq; omega
       have hq2 : q < z.length := by simp at hq; omega
       have := hd q i (by omega) (by omega) hi
       rw [Q133 (List.getElem?_eq_getElem hq2)] at this
       simp only [List.getElem_take] at e1
       exact absurd (e1.trans hk.symm) this
      ·simp at hp; subst hp; exact e2
    ·rw [if_neg hk]
     obtain ⟨v, hv, hvr⟩ := h2 k
     refine ⟨v, hv, fun n n0 n1 => ?_⟩
     rw [hvr n n0 n1]
     constructor
     ·rintro ⟨p, a, b⟩; exact ⟨p, by simp [a], b⟩
     ·rintro ⟨p, a, b, c⟩
      rcases List.mem_append.1 a with a | a
      ·exact ⟨p, a, b, c⟩
      ·simp at a; subst a; exact absurd b hk
   ·left
    rw [if_neg hi]
    rw [List.take_of_length_le (by omega)] at h2
    exact ⟨_, rfl, m, rfl, h2⟩) ([], 0) ⟨Int.le_refl _, by dsimp only; omega, fun k => ⟨W4.z, rfl, fun n n0 n1 => by
     rw [W4.z_rep n n0 n1]
     simp⟩⟩
 exact ⟨m, hr, hm⟩
end Go.Bw
namespace Go.Bw
open Go Go.RowKit
theorem has_run {u : W4} {n : Int} : Q50.f (Wd u.a) (Wd u.b) (Wd u.c) (Wd u.d) n = some (decide (0 ≤ n ∧ n < 256) && u.has n) := by
 unfold Q50.f
 by_cases h0 : 0 ≤ n
 ·rw [if_pos h0, Q15]
  by_cases h1 : n < 256
  ·have hm : IntKind.u64.wrap (band .i64 n 63) = n % 64 := by rw [band63 h0 (by omega), wrapu (by omega) (by omega)]
   have hbit : ∀ v : BitVec 64, decide (band .u64 (Bw.shr .u64 (Wd v) (n % 64)) 1 = 1) = v.getLsbD (n % 64).toNat := fun v => by
    rw [Bool.eq_iff_iff, decide_eq_true_eq, bit_wd v (by omega) (by omega)]
   have hn : (0 : Int) ≤ n % 64 := by omega
   have hr : (0 : Int) ≤ n / 64 ∧ n / 64 < 4 := by omega
   rw [if_pos (decide_eq_true h1), shr6 h0, hm, if_pos hr, decide_eq_true (show 0 ≤ n ∧ n < 256 from ⟨h0, h1⟩), Bool.true_and]
   simp only [if_pos hn, hbit]
   unfold W4.has W4.sel
   by_cases k0 : n / 64 = 0
   ·simp [k0, jn]
   ·by_cases k1 : n / 64 = 1
    ·simp [k1, jn]
    ·by_cases k2 : n / 64 = 2
     ·simp [k2, jn]
     ·simp [k0, k1, k2, jn]
  ·rw [if_neg (by simp; omega), decide_eq_false (by omega)]
   rfl
 ·rw [if_neg h0, Q15, if_neg (by simp), decide_eq_false (by omega)]
  rfl
end Go.Bw
namespace Go.Bw
open Go Go.RowKit

section
variable {z : List Q4} {holds : List (Bs × Q2)}
noncomputable def hoW (hh : Hx z holds) (a : Bs) : W4 := (hh a).choose
theorem hoW_rep (hh : Hx z holds) (a : Bs) : (hoW hh a).Rep (fun t => ∃ p ∈ z, p.Name = a ∧ t ∈ p.States) := (hh a).choose_spec.2
theorem hoW_run (hh : Hx z holds) (n : Int) (next : List (Q8 × Q2)) (a : Bs) : Q90.f n holds next a = some (hoW hh a).t := by
 have h := (hh a).choose_spec.1
 unfold Q90.f
 rw [h]
 rfl
end
def sysC (n : Int) (x : List Bs) (y : List Q3) (z : List Q4) : Ctx := ⟨n, fun a s => ∃ p ∈ z, p.Name = a ∧ s ∈ p.States, fun a s t => Hit x y ⟨s, a⟩ t⟩
theorem Q172 {n : Int} {x : List Bs} {y : List Q3} {z : List Q4} (R : RightS n x y z) : (sysC n x y z).Ok := by
 refine ⟨fun a s ⟨p, hp, _, hs⟩ => ?_, fun a s t ⟨e, he, h1, h2, _⟩ => ?_⟩
 ·exact (R.pr p hp).2.1 s hs
 ·have := R.ed e he
  unfold EdgeIn at this
  unfold Ctx.all sysC
  dsimp only at h1 h2 ⊢
  omega
theorem sys_tb {n : Int} {x : List Bs} {y : List Q3} {z : List Q4} (R : RightS n x y z) {holds : List (Bs × Q2)} {next : List (Q8 × Q2)} (hx : Nx x y next) (hh : Hx z holds) : Tb n holds next (sysC n x y z) := by
 have n0 := R.n0
 have n1 := R.n1
 refine ⟨rfl, n0, n1, Q172 R, fun a => ?_, fun a v S hv hS => ?_⟩
 ·obtain ⟨e, hw⟩ := W4.word (n := n) (by omega) (hoW_rep hh a) (fun s hs => (Q172 R).holds a s hs)
  refine ⟨(hoW hh a).a, ?_, hw⟩
  rw [hoW_run hh n next a, e]
  rfl
 ·obtain ⟨u, hu, hr⟩ := back_run hx (show 0 ≤ n by omega) (by omega) holds v a
  obtain ⟨e, hw⟩ := W4.word (n := n) (by omega) hr (fun s hs => ⟨hs.1, hs.2.1⟩)
  refine ⟨u.a, by rw [hu, e]; rfl, fun i hi => (hw i hi).trans ?_⟩
  constructor
  ·rintro ⟨_, _, t, ht, h1, h2⟩
   exact ⟨t, h1, (hv t ht).1 h2⟩
  ·rintro ⟨t, h1, h2⟩
   have h3 := (Q172 R).edge a i t h1
   have h4 := h3.2
   unfold Ctx.all sysC at h3 h4
   dsimp only at h3 h4
   refine ⟨h3.1.1, h3.1.2, t.toNat, by omega, ?_, (hv t.toNat (by omega)).2 ?_⟩
   ·rw [show ((t.toNat : Nat) : Int) = t by omega]; exact h1
   ·rw [show ((t.toNat : Nat) : Int) = t by omega]; exact h2
theorem Q204 (v : BitVec 64) {i : Int} (h0 : 0 ≤ i) (h1 : i < 64) : Q50.f (Wd v) 0 0 0 i = some (v.getLsbD i.toNat) := by
 have := has_run (u := ⟨v, 0#64, 0#64, 0#64⟩) (n := i)
 rw [show Wd (0#64) = 0 from rfl] at this
 rw [this, decide_eq_true (by omega), Bool.true_and]
 unfold W4.has W4.sel
 rw [if_pos (by omega), show i % 64 = i by omega]
theorem new_tab {n : Int} {x : List Bs} {y : List Q3} {z : List Q4} (hs : ∀ p ∈ z, (p.States.length : Int) ≤ 9223372036854775807) (R : RightS n x y z) : ∃ holds next, Q16.f n x y z = some (some ⟨n, holds, next⟩) ∧ Tb n holds next (sysC n x y z) := by
 obtain ⟨m0, hm0, hh⟩ := holds_run z (by have := R.nz; omega) hs (fun i j h0 h1 h2 => rise_ne R.rz h0 h1 h2)
 obtain ⟨m1, hm1, hx⟩ := l1_run n x y (by have := R.ny; omega) R.ed R.n1
 obtain ⟨b, hb, hf⟩ := Q252 n x y z hs
 have hbt : b = true := hf.2 R
 subst hbt
 exact ⟨m0, m1, by unfold Q16.f; rw [hb]; simp [hm0, hm1, jn], sys_tb R hx hh⟩
theorem new_none {n : Int} {x : List Bs} {y : List Q3} {z : List Q4} (hs : ∀ p ∈ z, (p.States.length : Int) ≤ 9223372036854775807) (h : ¬ RightS n x y z) : Q16.f n x y z = some none := by
 obtain ⟨b, hb, hf⟩ := Q252 n x y z hs
 have hbt : b = false := by
  cases b with
  | false => rfl
  | true => exact absurd (hf.1 rfl) h
 subst hbt
 unfold Q16.f
 rw [hb]
 simp [jn]
end Go.Bw
namespace Go.Bw
open Go Go.RowKit

theorem apart_l0 {n : Int} {y : List Q3} (hn : 0 ≤ n ∧ n ≤ 24) (hy : y.length ≤ 200) (he : ∀ e ∈ y, 0 ≤ e.From ∧ e.From < 24 ∧ 0 ≤ e.To ∧ e.To < 24) : Q12.l0 n y [] 0 = some (.inl y) := by
 have h := Q168 (L := y) (β := Q3) (ρ := Bool) id (body := fun t_ : (List Q3) × Int => Q12.l0b n y t_.1 t_.2) (by omega) [] (fun a i i0 i1 ha => by
  have hm := he _ (Q42 i0 i1)
  simp only [Q12.l0b]
  rw [if_pos i1, if_pos ⟨i0, i1⟩, if_pos (by simp; simp at ha; omega), wrap64 (x := 0 * n) (by omega) (by omega), wrap64 (x := (gt y i).From + 0 * n) (by omega) (by omega), wrap64 (x := (gt y i).To + 0 * n) (by omega) (by omega), wrap64 (x := i + 1) (by omega) (by omega)]
  have : (⟨(gt y i).From + 0 * n, (gt y i).Action, (gt y i).To + 0 * n⟩ : Q3) = gt y i := by
   rw [Int.zero_mul, Int.add_zero, Int.add_zero]
  rw [this]
  rfl) (fun a i hi => by simp only [Q12.l0b]; rw [if_neg hi]; rfl)
 rw [List.map_id, List.nil_append] at h
 exact h
theorem apart_l1 {n : Int} {y : List Q3} (hn : 0 ≤ n ∧ n ≤ 24) (hy : y.length ≤ 200) (he : ∀ e ∈ y, 0 ≤ e.From ∧ e.From < 24 ∧ 0 ≤ e.To ∧ e.To < 24) : Q12.l1 n y y 0 = some (.inl (y ++ y.map (shE n))) := by
 exact Q168 (L := y) (β := Q3) (ρ := Bool) (shE n) (body := fun t_ : (List Q3) × Int => Q12.l1b n y t_.1 t_.2) (by omega) y (fun a i i0 i1 ha => by
  have hm := he _ (Q42 i0 i1)
  simp only [Q12.l1b]
  rw [if_pos i1, if_pos ⟨i0, i1⟩, if_pos (by simp; omega), wrap64 (x := 1 * n) (by omega) (by omega), wrap64 (x := (gt y i).From + 1 * n) (by omega) (by omega), wrap64 (x := (gt y i).To + 1 * n) (by omega) (by omega), wrap64 (x := i + 1) (by omega) (by omega), Int.one_mul]
  rfl) (fun a i hi => by simp only [Q12.l1b]; rw [if_neg hi]; rfl)
theorem apart_l2 {n : Int} {x : List Bs} {y : List Q3} {z : List Q4} (R : RightS n x y z) : Q12.l2 n z [] 0 = some (.inl (z.map (shP n))) := by
 have n0 := R.n0
 have n1 := R.n1
 have nz := R.nz
 have h := Q168 (L := z) (β := Q4) (ρ := Bool) (shP n) (body := fun t_ : (List Q4) × Int => Q12.l2b n z t_.1 t_.2) (by omega) [] (fun a i i0 i1 ha => by
  have hP := (R.pr _ (Q42 i0 i1)).2
  have hfew := Q230 n1 hP
  have e4 : Q12.l4 n z i [] 0 = some (.inl (gt z i).States) := by
   have h := Q168 (L := (gt z i).States) (β := Int) (ρ := ((List Q4) × Int) ⊕ (((List Q4)) ⊕ (Bool))) id (body := fun t_ : (List Int) × Int => Q12.l4b n z i t_.1 t_.2) (by omega) [] (fun b k k0 k1 hb => by
    have hm := hP.1 _ (Q42 k0 k1)
    simp only [Q12.l4b]
    rw [if_pos k1, if_pos ⟨k0, k1⟩, if_pos (by simp; simp at hb; omega), wrap64 (x := 0 * n) (by omega) (by omega), wrap64 (x := gt (gt z i).States k + 0 * n) (by omega) (by omega), wrap64 (x := k + 1) (by omega) (by omega), Int.zero_mul, Int.add_zero]
    rfl) (fun b k hk => by simp only [Q12.l4b]; rw [if_neg hk]; rfl)
   rw [List.map_id, List.nil_append] at h
   exact h
  have e5 : Q12.l5 n z i (gt z i).States 0 = some (.inl ((gt z i).States ++ (gt z i).States.map (· + n))) := by
   exact Q168 (L := (gt z i).States) (β := Int) (ρ := ((List Q4) × Int) ⊕ (((List Q4)) ⊕ (Bool))) (· + n) (body := fun t_ : (List Int) × Int => Q12.l5b n z i t_.1 t_.2) (by omega) (gt z i).States (fun b k k0 k1 hb => by
    have hm := hP.1 _ (Q42 k0 k1)
    simp only [Q12.l5b]
    rw [if_pos k1, if_pos ⟨k0, k1⟩, if_pos (by simp; omega), wrap64 (x := 1 * n) (by omega) (by omega), wrap64 (x := gt (gt z i).States k + 1 * n) (by omega) (by omega), wrap64 (x := k + 1) (by omega) (by omega), Int.one_mul]
    rfl) (fun b k hk => by simp only [Q12.l5b]; rw [if_neg hk]; rfl)
  simp only [Q12.l2b]
  rw [if_pos i1, if_pos ⟨i0, i1⟩, e4, Q15, e5, Q15, if_pos (by simp at ha; omega), wrap64 (x := i + 1) (by omega) (by omega)]
  rfl) (fun a i hi => by simp only [Q12.l2b]; rw [if_neg hi]; rfl)
 rw [List.nil_append] at h
 exact h
theorem dbl_bis {n : Int} {x : List Bs} {y : List Q3} {z : List Q4} (R : RightS n x y z) : Bis (sysC (2 * n) x (y ++ y.map (shE n)) (z.map (shP n))) (sysC n x y z) (ori n) := by
 have n0 := R.n0
 refine ⟨fun s hs => ?_, fun u hu => ?_, fun a s hs => ?_, fun a s t h => ?_, fun a s w hs h => ?_⟩
 ·exact ori_in hs.1 hs.2
 ·refine ⟨u, ⟨hu.1, ?_⟩, ?_⟩
  ·have := hu.2
   unfold sysC at *
   dsimp only at *
   omega
  ·unfold ori
   exact if_pos hu.2
 ·have s0 := hs.1
  have s1 : s < 2 * n := hs.2
  have hst : ∀ p ∈ z, (s ∈ (shP n p).States ↔ ori n s ∈ p.States) := fun p hp => by
   have hP := (R.pr p hp).2.1
   unfold shP ori
   dsimp only
   rw [List.mem_append, List.mem_map]
   by_cases hs : s < n
   ·rw [if_pos hs]
    constructor
    ·rintro (h | ⟨u, hu, rfl⟩)
     ·exact h
     ·have := hP u hu; omega
    ·exact .inl
   ·rw [if_neg hs]
    constructor
    ·rintro (h | ⟨u, hu, e⟩)
     ·have := hP s h; omega
     ·rw [← e, show u + n - n = u from by omega]; exact hu
    ·exact fun h => .inr ⟨s - n, h, by omega⟩
  constructor
  ·rintro ⟨p, hp, e, hm⟩
   obtain ⟨p0, hp0, rfl⟩ := List.mem_map.1 hp
   exact ⟨p0, hp0, e, (hst p0 hp0).1 hm⟩
  ·rintro ⟨p, hp, e, hm⟩
   exact ⟨shP n p, List.mem_map_of_mem hp, e, (hst p hp).2 hm⟩
 ·obtain ⟨e, he, h1, h2, h3⟩ := h
  dsimp only at h1 h2 h3
  rcases List.mem_append.1 he with he | he
  ·have := R.ed e he
   unfold EdgeIn at this
   refine ⟨e, he, ?_, ?_, h3⟩
   ·show e.From = ori n s
    unfold ori; rw [if_pos (by omega)]; exact h1
   ·show e.To = ori n t
    unfold ori; rw [if_pos (by omega)]; exact h2
  ·obtain ⟨e0, he0, rfl⟩ := List.mem_map.1 he
   have := R.ed e0 he0
   unfold EdgeIn at this
   unfold shE at h1 h2 h3
   dsimp only at h1 h2 h3
   refine ⟨e0, he0, ?_, ?_, h3⟩
   ·show e0.From = ori n s
    unfold ori; rw [if_neg (by omega)]; omega
   ·show e0.To = ori n t
    unfold ori; rw [if_neg (by omega)]; omega
 ·obtain ⟨e, he, h1, h2, h3⟩ := h
  dsimp only at h1 h2 h3
  have hE := R.ed e he
  unfold EdgeIn at hE
  by_cases hs' : s < n
  ·have o : ori n s = s := if_pos hs'
   rw [o] at h1
   refine ⟨w, ⟨e, List.mem_append_left _ he, h1, h2, h3⟩, if_pos (by omega)⟩
  ·have o : ori n s = s - n := if_neg hs'
   rw [o] at h1
   refine ⟨w + n, ⟨shE n e, List.mem_append_right _ (List.mem_map_of_mem he), ?_, ?_, h3⟩, ?_⟩
   ·show e.From + n = s
    omega
   ·show e.To + n = w + n
    omega
   ·unfold ori; rw [if_neg (by omega)]; omega
theorem Q234 {n : Int} {v u : BitVec 64} {d d' : Int} (n0 : 0 ≤ n) (hn : 2 * n ≤ 24) (h : ∀ i, 0 ≤ i → i < n → v.getLsbD i.toNat = u.getLsbD i.toNat ∧ v.getLsbD i.toNat = u.getLsbD (i + n).toNat) :
 Q12.l3 n (d, Wd v, 0, 0, 0) (d', Wd u, 0, 0, 0) 0 = some (.inl ()) := by
 obtain ⟨r, hr, rfl⟩ := Q68 (body := fun t_ : Int => Q12.l3b n (d, Wd v, 0, 0, 0) (d', Wd u, 0, 0, 0) t_) (fun i => 0 ≤ i) (fun r => r = .inl ()) (fun i => (n - i).toNat) (fun i i0 => by
  simp only [Q12.l3b]
  by_cases hi : i < n
  ·right
   obtain ⟨h1, h2⟩ := h i i0 hi
   rw [if_pos hi, Q204 v i0 (by omega), Option.bind_some, Q204 u i0 (by omega), Option.bind_some, ← h1, if_pos (by simp), wrap64 (x := i + n) (by omega) (by omega), Option.bind_some, Q204 u (by omega) (by omega), Option.bind_some, ← h2, wrap64 (x := i + 1) (by omega) (by omega)]
   simp only [Q15, beq_self_eq_true, Bool.not_true, Bool.false_eq_true, if_false]
   exact ⟨_, rfl, by omega, by omega⟩
  ·left; rw [if_neg hi]; exact ⟨_, rfl, rfl⟩) 0 (Int.le_refl _)
 exact hr
theorem apart_run (n : Int) (x : List Bs) (y : List Q3) (z : List Q4) (f : List Q1) (hs : ∀ p ∈ z, (p.States.length : Int) ≤ 9223372036854775807) (hf : ∀ n ∈ f, (n.Name.length : Int) ≤ 9223372036854775807) (hz : (0 + f.length) * 48 ≤ 140737488355328) :
 Q12.f n x y z f = some true := by
 unfold Q12.f
 rw [Q314, Option.bind_some]
 by_cases R : RightS n x y z
 ·have n0 := R.n0
  have n1 := R.n1
  have ny := R.ny
  have hw1 : IntKind.i64.wrap (2 * n) = 2 * n := wrap64 (by omega) (by omega)
  have hw2 : IntKind.i64.wrap (2 * (y.length : Int)) = 2 * (y.length : Int) := wrap64 (by omega) (by omega)
  obtain ⟨ho, ne, hN, T⟩ := new_tab hs R
  simp only [hN, Option.bind_some, if_true, Option.isNone_some, Q15, Bool.false_eq_true, if_false, hw1, hw2]
  by_cases c1 : 24 < 2 * n
  ·simp [c1, jn]
  ·by_cases c2 : 200 < 2 * (y.length : Int)
   ·simp [c1, c2, jn]
   ·have he : ∀ e ∈ y, 0 ≤ e.From ∧ e.From < 24 ∧ 0 ≤ e.To ∧ e.To < 24 := fun e he => by
     have := R.ed e he
     unfold EdgeIn at this
     omega
    have R2 := Q307 R (by omega) (by omega)
    have hs2 : ∀ p ∈ z.map (shP n), (p.States.length : Int) ≤ 9223372036854775807 := fun p hp => by
     have := Q230 R2.n1 (R2.pr p hp).2
     omega
    obtain ⟨ho2, ne2, hN2, T2⟩ := new_tab hs2 R2
    simp only [decide_eq_false c1, decide_eq_false c2, Bool.false_eq_true, if_false, Q15, apart_l0 (n := n) (y := y) ⟨by omega, by omega⟩ R.ny he, apart_l1 (n := n) (y := y) ⟨by omega, by omega⟩ R.ny he, apart_l2 R, hN2, Option.bind_some, Option.isNone_some, if_true, Option.getD_some]
    rcases eval_run f hf hz with h | ⟨to, f0, f1, ft, bd, h⟩
    ·simp only [h, Option.bind_some]
     have := Q234 (n := n) (v := 0#64) (u := 0#64) (d := 1) (d' := 1) (by omega) (by omega) (fun i _ _ => by simp)
     rw [show Wd 0#64 = 0 from rfl] at this
     rw [this, Q15]
     rfl
    ·obtain ⟨v, e1, w1⟩ := h _ _ _ _ T
     obtain ⟨u, e2, w2⟩ := h _ _ _ _ T2
     simp only [e1, e2, Option.bind_some]
     have key : ∀ s, 0 ≤ s → s < 2 * n → (u.getLsbD s.toNat = true ↔ v.getLsbD (ori n s).toNat = true) := fun s s0 s1 => by
      have ho := ori_in (n := n) s0 s1
      rw [w1 (ori n s).toNat (by omega), w2 s.toNat (by omega), show ((s.toNat : Nat) : Int) = s by omega, show (((ori n s).toNat : Nat) : Int) = ori n s by omega]
      exact den_bis (Q172 R2) (Q172 R) (dbl_bis R) bd (fun p hp => by cases hp) (fun p hp => by cases hp) (fun p hp => by cases hp) (fun p hp => by cases hp) s ⟨s0, s1⟩
     rw [Q234 (by omega) (by omega) (fun i i0 i1 => ?_), Q15]
     ·rfl
     ·have k1 := key i i0 (by omega)
      have k2 := key (i + n) (by omega) (by omega)
      rw [show ori n i = i from if_pos i1] at k1
      rw [show ori n (i + n) = i by unfold ori; rw [if_neg (by omega)]; omega] at k2
      exact ⟨(Bool.eq_iff_iff.2 k1).symm, (Bool.eq_iff_iff.2 k2).symm⟩
 ·rw [new_none hs R]
  simp [jn]
end Go.Bw
namespace Go.Bw
open Go Go.RowKit Go.ChangeShapes Go.WideShapes Go.Deep
section
variable {P : Program} {α β γ δ ε : Type}
theorem Q313 {H : Type} {enc : TypeId × Value → H} {w : World} {base : Nat} {spare : TypeId → Bool} {held : Bool} {t : TypeId} {f0 f1 f2 f3 f4 : Field} {fuel : Nat} {cs : List Value} {x : DataW H × List MemPlace} (ht : P.underlying t = some (.struct #[f0, f1, f2, f3, f4])) (h : DataW.trod enc P w base spare held fuel t cs = some x) :
 ∃ y0 y1 y2 y3 y4 n, x = (.agg [y0.1, y1.1, y2.1, y3.1, y4.1], y0.2 ++ (y1.2 ++ (y2.2 ++ (y3.2 ++ y4.2)))) ∧ cs.length = P.cellsOf t ∧ DataW.trod enc P w base spare held n f0.type ((cs.drop f0.offset).take (P.cellsOf f0.type)) = some y0 ∧
  DataW.trod enc P w base spare held n f1.type ((cs.drop f1.offset).take (P.cellsOf f1.type)) = some y1 ∧ DataW.trod enc P w base spare held n f2.type ((cs.drop f2.offset).take (P.cellsOf f2.type)) = some y2 ∧
  DataW.trod enc P w base spare held n f3.type ((cs.drop f3.offset).take (P.cellsOf f3.type)) = some y3 ∧ DataW.trod enc P w base spare held n f4.type ((cs.drop f4.offset).take (P.cellsOf f4.type)) = some y4 := by
 obtain ⟨xs, n, _, rfl, hl, hlen, hf⟩ := DataW.trod_struct ht h
 match xs, hlen with
 | [y0, y1, y2, y3, y4], _ => exact ⟨y0, y1, y2, y3, y4, n, by simp, hl, by simpa using hf 0 f0 rfl, by simpa using hf 1 f1 rfl, by simpa using hf 2 f2 rfl, by simpa using hf 3 f3 rfl, by simpa using hf 4 f4 rfl⟩
theorem OpensZ.st5 {T : Rep α} {U : Rep β} {V : Rep γ} {X : Rep δ} {Y : Rep ε} {S Z : α → Prop} {S' Z' : β → Prop} {S'' Z'' : γ → Prop} {S3 Z3 : δ → Prop} {S4 Z4 : ε → Prop} {t : Nat} {f0 f1 f2 f3 f4 : Field} (ht : P.underlying t = some (.struct #[f0, f1, f2, f3, f4])) (o0 : OpensZ P T f0.type S Z) (o1 : OpensZ P U f1.type S' Z') (o2 : OpensZ P V f2.type S'' Z'') (o3 : OpensZ P X f3.type S3 Z3) (o4 : OpensZ P Y f4.type S4 Z4)
 (h0 : f0.offset = 0) (h1 : f1.offset = T.sz) (h2 : f2.offset = T.sz + U.sz) (h3 : f3.offset = T.sz + (U.sz + V.sz)) (h4 : f4.offset = T.sz + (U.sz + (V.sz + X.sz))) (hc : P.cellsOf t = T.sz + (U.sz + (V.sz + (X.sz + Y.sz)))) :
 OpensZ P (T.pair (U.pair (V.pair (X.pair Y)))) t (fun p => S p.1 ∧ S' p.2.1 ∧ S'' p.2.2.1 ∧ S3 p.2.2.2.1 ∧ S4 p.2.2.2.2) (fun p => Z p.1 ∧ Z' p.2.1 ∧ Z'' p.2.2.1 ∧ Z3 p.2.2.2.1 ∧ Z4 p.2.2.2.2) := ⟨hc, fun fuel cs x h => by
 obtain ⟨y0, y1, y2, y3, y4, n, hx, hl, g0, g1, g2, g3, g4⟩ := Q313 ht h
 obtain ⟨a, ka, sa, za⟩ := o0.2 _ _ _ g0
 obtain ⟨b, kb, sb, zb⟩ := o1.2 _ _ _ g1
 obtain ⟨c, kc, sc, zc⟩ := o2.2 _ _ _ g2
 obtain ⟨d, kd, sd, zd⟩ := o3.2 _ _ _ g3
 obtain ⟨e, ke, se, ze⟩ := o4.2 _ _ _ g4
 rw [h0, o0.1, List.drop_zero] at ka
 rw [h1, o1.1] at kb
 rw [h2, o2.1, ← List.drop_drop] at kc
 rw [h3, o3.1, ← List.drop_drop, ← List.drop_drop] at kd
 rw [h4, o4.1, ← List.drop_drop, ← List.drop_drop, ← List.drop_drop] at ke
 have e1 : cs = cs.take T.sz ++ cs.drop T.sz := (List.take_append_drop _ _).symm
 have e2 : cs.drop T.sz = (cs.drop T.sz).take U.sz ++ (cs.drop T.sz).drop U.sz := (List.take_append_drop _ _).symm
 have e3 : (cs.drop T.sz).drop U.sz = ((cs.drop T.sz).drop U.sz).take V.sz ++ ((cs.drop T.sz).drop U.sz).drop V.sz := (List.take_append_drop _ _).symm
 have e4 := cut2 (cs := ((cs.drop T.sz).drop U.sz).drop V.sz) (a := X.sz) (b := Y.sz) (by simp; omega)
 exact ⟨(a, b, c, d, e), ⟨_, _, e1, ka, _, _, e2, kb, _, _, e3, kc, _, _, e4, kd, ke⟩, ⟨sa, sb, sc, sd, se⟩, fun hw => ⟨za fun w hq => (hw w (by rw [(Prod.mk.inj hx).1]; simp [DataW.weights, DataW.weightsEach, ht, hq])), zb fun w hq => (hw w (by rw [(Prod.mk.inj hx).1]; simp [DataW.weights, DataW.weightsEach, ht, hq])), zc fun w hq => (hw w (by rw [(Prod.mk.inj hx).1]; simp [DataW.weights, DataW.weightsEach, ht, hq])), zd fun w hq => (hw w (by rw [(Prod.mk.inj hx).1]; simp [DataW.weights, DataW.weightsEach, ht, hq])), ze fun w hq => (hw w (by rw [(Prod.mk.inj hx).1]; simp [DataW.weights, DataW.weightsEach, ht, hq]))⟩⟩⟩
end
end Go.Bw
namespace Go.Bw
open Go Go.RowKit Go.Proofs
theorem Q315 {n : Int} {x : List Bs} {y : List Q3} {z : List Q4} {f : List Q1} (h : (Lit.int .i64 n).wf = true ∧ (x.length ≤ maxLen ∧ ∀ s ∈ x, s.length ≤ maxLen) ∧ (y.length ≤ maxLen ∧ ∀ e ∈ y, ((Lit.int .i64 e.From).wf = true ∧ (Lit.int .i64 e.Action).wf = true ∧ (Lit.int .i64 e.To).wf = true)) ∧
 (z.length ≤ maxLen ∧ ∀ p ∈ z, (p.Name.length ≤ maxLen ∧ (p.States.length ≤ maxLen ∧ ∀ s ∈ p.States, (Lit.int .i64 s).wf = true))))
 (w : True ∧ (x.length * Tryz.prog.bytesOf 9 ≤ reachBytes ∧ ∀ s ∈ x, True) ∧ (y.length * Tryz.prog.bytesOf 32 ≤ reachBytes ∧ ∀ e ∈ y, (True ∧ True ∧ True)) ∧ (z.length * Tryz.prog.bytesOf 35 ≤ reachBytes ∧ ∀ p ∈ z, (True ∧ (p.States.length * Tryz.prog.bytesOf 3 ≤ reachBytes ∧ ∀ s ∈ p.States, True))))
 (h2 : f.length ≤ maxLen ∧ ∀ e ∈ f, ((Lit.int .i64 e.Kind).wf = true ∧ (Lit.int .i64 e.A).wf = true ∧ (Lit.int .i64 e.B).wf = true ∧ e.Name.length ≤ maxLen ∧ (Lit.int .i64 e.At).wf = true))
 (w2 : f.length * Tryz.prog.bytesOf 51 ≤ reachBytes ∧ ∀ e ∈ f, (True ∧ True ∧ True ∧ True ∧ True)) :
 Q12.f n x y z f = some true := apart_run n x y z f (fun p hp => by
 have h1 := (h.2.2.2.2 p hp).2.1
 have h2 : maxLen ≤ 9223372036854775807 := by decide
 omega) (fun p hp => by
 have h1 := (h2.2 p hp).2.2.2.1
 have h2 : maxLen ≤ 9223372036854775807 := by decide
 omega) (by
 have b : Tryz.prog.bytesOf 51 = 48 := by kernel_rfl
 have hr : reachBytes = 140737488351232 := rfl
 have := w2.1
 rw [b, hr] at this
 omega)
end Go.Bw
