/- Tarjan's walk, told apart from any program: one round keeps what holds. Conditions: none. -/
import Derived.Test.YtbkooifhcekpmaaGreatBwRow
set_option linter.unusedVariables false
set_option linter.unusedSimpArgs false
set_option linter.unusedSectionVars false
namespace Go.Bw.Tj
open Go Go.Bw

section
variable (G : List (List Int)) (may : Int → Bool)
def Ok (x : Int) : Prop := 0 ≤ x ∧ x < (G.length : Int)
def Ed (u v : Int) : Prop := v ∈ gt G u ∧ Ok G v ∧ may v = true
inductive Rch : Int → Int → Prop
  | refl (x : Int) : Rch x x
  | step {x y z : Int} : Ed G may x y → Rch y z → Rch x z
structure S where
  ord : Int → Int
  low : Int → Int
  stk : List Int
  opn : List (Int × Int)
  clk : Int
def S.nodes (s : S) : List Int := s.opn.map (·.1)
def Exd (s : S) (x y : Int) : Prop := Ed G may x y ∧ ∃ i, 0 ≤ i ∧ i < ((gt G x).length : Int) ∧ gt (gt G x) i = y ∧ ∀ k, (x, k) ∈ s.opn → i < k
def Seg (s : S) (v x : Int) : Prop := v ∈ s.nodes ∧ s.ord v ≤ s.ord x ∧ ∀ u ∈ s.nodes, s.ord u ≤ s.ord x → s.ord u ≤ s.ord v
structure Inv (s : S) : Prop where
  pos : ∀ x, Ok G x → 0 ≤ s.ord x ∧ s.ord x ≤ s.clk
  inj : ∀ x y, Ok G x → Ok G y → s.ord x = s.ord y → s.ord x ≠ 0 → x = y
  stk : ∀ x ∈ s.stk, Ok G x ∧ s.ord x ≠ 0
  inc : s.stk.Pairwise (fun x y => s.ord x < s.ord y)
  opn : ∀ p ∈ s.opn, p.1 ∈ s.stk ∧ 0 ≤ p.2 ∧ p.2 ≤ ((gt G p.1).length : Int)
  opi : s.opn.Pairwise (fun p q => s.ord p.1 < s.ord q.1)
  exd : ∀ x ∈ s.stk, ∀ y, Exd G may s x y → s.ord y ≠ 0
  s1 : ∀ x ∈ s.stk, ∃ v, Seg s v x ∧ Rch G may x v
  s2 : ∀ v ∈ s.nodes, ∀ x ∈ s.stk, s.ord v ≤ s.ord x → Rch G may v x
  l1 : ∀ v ∈ s.nodes, s.low v ≤ s.ord v ∧ ∃ z ∈ s.stk, s.ord z = s.low v ∧ Rch G may v z
  l2 : ∀ v x y, Seg s v x → x ∈ s.stk → Exd G may s x y → y ∈ s.stk → s.low v ≤ s.ord y
  dn : ∀ x, Ok G x → s.ord x ≠ 0 → x ∉ s.stk → ∀ y, Ed G may x y → s.ord y ≠ 0 ∧ y ∉ s.stk
end
section
variable {G : List (List Int)} {may : Int → Bool} {s : S} {v k : Int} {o : List (Int × Int)}
theorem Rch.trans {x y z : Int} (h : Rch G may x y) (h' : Rch G may y z) : Rch G may x z := by
  induction h with
  | refl => exact h'
  | step e _ ih => exact .step e (ih h')
theorem Rch.one {x y : Int} (h : Ed G may x y) : Rch G may x y := .step h (.refl y)
theorem nodes_app (s : S) (ho : s.opn = o ++ [(v, k)]) : s.nodes = o.map (·.1) ++ [v] := by simp [S.nodes, ho]
/-- A node stands open once. -/
theorem Inv.once (h : Inv G may s) {v a b : Int} (ha : (v, a) ∈ s.opn) (hb : (v, b) ∈ s.opn) : a = b := by
  have := h.opi
  revert this ha hb
  generalize s.opn = l
  induction l with
  | nil => intro ha; cases ha
  | cons p l ih =>
    intro ha hb hp
    rw [List.pairwise_cons] at hp
    rcases List.mem_cons.1 ha with rfl | ha' <;> rcases List.mem_cons.1 hb with h2 | hb'
    · exact (Prod.mk.inj h2).2.symm
    · exact absurd (hp.1 _ hb') (by simp)
    · subst h2; exact absurd (hp.1 _ ha') (by simp)
    · exact ih ha' hb' hp.2
/-- One step of the last open node is gone through. -/
def S.next (s : S) (o : List (Int × Int)) (v k : Int) : S := { s with opn := o ++ [(v, k + 1)] }
theorem next_nodes (s : S) (ho : s.opn = o ++ [(v, k)]) : (s.next o v k).nodes = s.nodes := by simp [S.nodes, S.next, ho]
theorem next_seg (s : S) (ho : s.opn = o ++ [(v, k)]) {a b : Int} : Seg (s.next o v k) a b ↔ Seg s a b := by
  unfold Seg
  rw [next_nodes s ho]
  exact Iff.rfl
theorem Inv.notin (h : Inv G may s) (ho : s.opn = o ++ [(v, k)]) {a : Int} : (v, a) ∉ o := fun hm => by
  have h1 : (v, a) ∈ s.opn := by rw [ho]; simp [hm]
  have := h.opi
  rw [ho, List.pairwise_append] at this
  exact absurd (this.2.2 _ hm (v, k) (by simp)) (by simp)
theorem next_exd (h : Inv G may s) (ho : s.opn = o ++ [(v, k)]) {x y : Int} (he : Exd G may (s.next o v k) x y) : Exd G may s x y ∨ (x = v ∧ y = gt (gt G v) k ∧ Ed G may v y) := by
  obtain ⟨e, i, h0, h1, hi, hk⟩ := he
  by_cases hx : x = v
  · subst hx
    have hlt : i < k + 1 := hk (k + 1) (by simp [S.next])
    by_cases hik : i = k
    · subst hik; exact .inr ⟨rfl, hi.symm, e⟩
    · refine .inl ⟨e, i, h0, h1, hi, fun k' hk' => ?_⟩
      have : k' = k := h.once hk' (by rw [ho]; simp)
      omega
  · refine .inl ⟨e, i, h0, h1, hi, fun k' hk' => hk k' ?_⟩
    rw [ho] at hk'
    rcases List.mem_append.1 hk' with h' | h'
    · simp [S.next, h']
    · simp at h'; exact absurd h'.1 hx
theorem next_exd' (h : Inv G may s) (ho : s.opn = o ++ [(v, k)]) {x y : Int} (he : Exd G may s x y) : Exd G may (s.next o v k) x y := by
  obtain ⟨e, i, h0, h1, hi, hk⟩ := he
  refine ⟨e, i, h0, h1, hi, fun k' hk' => ?_⟩
  rcases List.mem_append.1 (show (x, k') ∈ o ++ [(v, k + 1)] from hk') with h' | h'
  · exact hk k' (by rw [ho]; simp [h'])
  · simp at h'
    obtain ⟨rfl, rfl⟩ := h'
    have := hk k (by rw [ho]; simp)
    omega
theorem Inv.last (h : Inv G may s) (ho : s.opn = o ++ [(v, k)]) : v ∈ s.stk ∧ Ok G v ∧ s.ord v ≠ 0 ∧ v ∈ s.nodes ∧ ∀ u ∈ s.nodes, s.ord u ≤ s.ord v := by
  have hv : (v, k) ∈ s.opn := by rw [ho]; simp
  have h1 := (h.opn _ hv).1
  refine ⟨h1, (h.stk _ h1).1, (h.stk _ h1).2, by rw [nodes_app s ho]; simp, fun u hu => ?_⟩
  rw [nodes_app s ho] at hu
  rcases List.mem_append.1 hu with h' | h'
  · obtain ⟨p, hp, rfl⟩ := List.mem_map.1 h'
    have := h.opi
    rw [ho, List.pairwise_append] at this
    exact Int.le_of_lt (this.2.2 _ hp (v, k) (by simp))
  · simp at h'; rw [h']; exact Int.le_refl _
/-- A step that leads nowhere new, or to a node that is done. -/
theorem Inv.skip (h : Inv G may s) (ho : s.opn = o ++ [(v, k)]) (hk : k < ((gt G v).length : Int))
    (hn : ∀ y, y = gt (gt G v) k → Ed G may v y → s.ord y ≠ 0 ∧ y ∉ s.stk) : Inv G may (s.next o v k) := by
  have hl := h.last ho
  have hvk := h.opn (v, k) (by rw [ho]; simp)
  refine ⟨h.pos, h.inj, h.stk, h.inc, fun p hp => ?_, ?_, fun x hx y he => ?_, fun x hx => ?_, ?_, ?_, fun a x y hs hx he hy => ?_, h.dn⟩
  · rcases List.mem_append.1 (show p ∈ o ++ [(v, k + 1)] from hp) with h' | h'
    · exact h.opn p (by rw [ho]; simp [h'])
    · simp at h'
      subst h'
      exact ⟨hvk.1, by have := hvk.2.1; simp at this ⊢; omega, by simp; omega⟩
  · show (o ++ [(v, k + 1)]).Pairwise _
    have := h.opi
    rw [ho, List.pairwise_append] at this
    rw [List.pairwise_append]
    refine ⟨this.1, by simp, fun p hp q hq => ?_⟩
    simp at hq
    subst hq
    exact this.2.2 p hp (v, k) (by simp)
  · rcases next_exd h ho he with he | ⟨rfl, hy, e⟩
    · exact h.exd x hx y he
    · exact (hn y hy e).1
  · obtain ⟨a, hs, hr⟩ := h.s1 x hx
    exact ⟨a, (next_seg s ho).2 hs, hr⟩
  · rw [next_nodes s ho]; exact h.s2
  · rw [next_nodes s ho]; exact h.l1
  · rcases next_exd h ho he with he | ⟨rfl, hy', e⟩
    · exact h.l2 a x y ((next_seg s ho).1 hs) hx he hy
    · exact absurd hy (hn y hy' e).2
/-- A step to a node on the stack. -/
theorem Inv.back (h : Inv G may s) (ho : s.opn = o ++ [(v, k)]) (hk : k < ((gt G v).length : Int)) {m : Int} (hm : m = gt (gt G v) k) (e : Ed G may v m) (hs : m ∈ s.stk)
    {low' : Int → Int} (hl1 : low' v = if s.ord m < s.low v then s.ord m else s.low v) (hl2 : ∀ x, Ok G x → x ≠ v → low' x = s.low x) : Inv G may { s.next o v k with low := low' } := by
  have hl := h.last ho
  have hvk := h.opn (v, k) (by rw [ho]; simp)
  have hno : ∀ u ∈ s.nodes, Ok G u := fun u hu => by
    obtain ⟨p, hp, rfl⟩ := List.mem_map.1 hu
    exact (h.stk _ (h.opn p hp).1).1
  have hle : ∀ u ∈ s.nodes, low' u ≤ s.low u := fun u hu => by
    by_cases hu' : u = v
    · subst hu'; rw [hl1]; split <;> omega
    · rw [hl2 u (hno u hu) hu']; exact Int.le_refl _
  refine ⟨h.pos, h.inj, h.stk, h.inc, fun p hp => ?_, ?_, fun x hx y he => ?_, fun x hx => ?_, ?_, fun u hu => ?_, fun a x y hsg hx he hy => ?_, h.dn⟩
  · rcases List.mem_append.1 (show p ∈ o ++ [(v, k + 1)] from hp) with h' | h'
    · exact h.opn p (by rw [ho]; simp [h'])
    · simp at h'
      subst h'
      exact ⟨hvk.1, by have := hvk.2.1; simp at this ⊢; omega, by simp; omega⟩
  · show (o ++ [(v, k + 1)]).Pairwise _
    have := h.opi
    rw [ho, List.pairwise_append] at this
    rw [List.pairwise_append]
    refine ⟨this.1, by simp, fun p hp q hq => ?_⟩
    simp at hq
    subst hq
    exact this.2.2 p hp (v, k) (by simp)
  · rcases next_exd h ho (show Exd G may (s.next o v k) x y from he) with he | ⟨rfl, hy, e'⟩
    · exact h.exd x hx y he
    · rw [hy, ← hm]; exact (h.stk m hs).2
  · obtain ⟨a, hsg, hr⟩ := h.s1 x hx
    exact ⟨a, (next_seg s ho).2 hsg, hr⟩
  · show ∀ v_1 ∈ (s.next o v k).nodes, _
    rw [next_nodes s ho]; exact h.s2
  · have hu' : u ∈ s.nodes := by rw [← next_nodes s ho]; exact hu
    obtain ⟨q1, z, hz, q2, q3⟩ := h.l1 u hu'
    refine ⟨Int.le_trans (hle u hu') q1, ?_⟩
    by_cases huv : u = v
    · subst huv
      show ∃ z ∈ s.stk, s.ord z = low' u ∧ _
      rw [hl1]
      split
      · exact ⟨m, hs, rfl, .one e⟩
      · exact ⟨z, hz, q2, q3⟩
    · exact ⟨z, hz, by show s.ord z = low' u; rw [hl2 u (hno u hu') huv]; exact q2, q3⟩
  · have hsg' : Seg s a x := (next_seg s ho).1 hsg
    rcases next_exd h ho (show Exd G may (s.next o v k) x y from he) with he | ⟨rfl, hy', e'⟩
    · exact Int.le_trans (hle a hsg'.1) (h.l2 a x y hsg' hx he hy)
    · -- x = v: its segment is its own
      have hav : a = x := by
        have h1 := hsg'.2.2 x hl.2.2.2.1 (Int.le_refl _)
        have h2 := hsg'.2.1
        exact h.inj a x (hno a hsg'.1) hl.2.1 (Int.le_antisymm h2 h1) (by have := (h.stk _ hl.1).2; omega)
      subst hav
      show low' a ≤ s.ord y
      rw [hl1, hy', ← hm]
      split <;> omega
/-- A node that is met for the first time. -/
theorem Inv.meet (h : Inv G may s) (ho : s.opn = o ++ [(v, k)]) (hk : k < ((gt G v).length : Int)) {m : Int} (hm : m = gt (gt G v) k) (e : Ed G may v m) (h0 : s.ord m = 0)
    {s' : S} (q1 : s'.ord m = s.clk + 1) (q2 : ∀ x, Ok G x → x ≠ m → s'.ord x = s.ord x) (q3 : s'.low m = s.clk + 1) (q4 : ∀ x, Ok G x → x ≠ m → s'.low x = s.low x)
    (q5 : s'.stk = s.stk ++ [m]) (q6 : s'.opn = (o ++ [(v, k + 1)]) ++ [(m, 0)]) (q7 : s'.clk = s.clk + 1) : Inv G may s' := by
  have hl := h.last ho
  have hvk := h.opn (v, k) (by rw [ho]; simp)
  have hmo : Ok G m := e.2.1
  have hpm := h.pos m hmo
  have hns : ∀ x ∈ s.stk, x ≠ m := fun x hx e => (h.stk x hx).2 (by rw [e]; exact h0)
  have ho' : ∀ x ∈ s.stk, s'.ord x = s.ord x := fun x hx => q2 x (h.stk x hx).1 (hns x hx)
  have hlc : ∀ x ∈ s.stk, s.ord x ≤ s.clk := fun x hx => (h.pos x (h.stk x hx).1).2
  have hnd : ∀ u ∈ s.nodes, u ∈ s.stk := fun u hu => by
    obtain ⟨p, hp, rfl⟩ := List.mem_map.1 hu
    exact (h.opn p hp).1
  have hnodes : s'.nodes = s.nodes ++ [m] := by simp [S.nodes, q6, ho]
  have hmn : m ∉ s.nodes := fun hm => hns m (hnd m hm) rfl
  have hopn : ∀ x j, x ≠ m → (x, j) ∈ (s.next o v k).opn → (x, j) ∈ s'.opn := fun x j _ hj => by rw [q6]; exact List.mem_append_left _ hj
  have hexd : ∀ x y, Exd G may s' x y → x ≠ m ∧ (Exd G may s x y ∨ (x = v ∧ y = m)) := fun x y he => by
    obtain ⟨e', i, i0, i1, i2, i3⟩ := he
    have hx : x ≠ m := fun hx => by subst hx; have := i3 0 (by rw [q6]; simp); omega
    refine ⟨hx, ?_⟩
    have hn : Exd G may (s.next o v k) x y := ⟨e', i, i0, i1, i2, fun j hj => i3 j (hopn x j hx hj)⟩
    rcases next_exd h ho hn with he | ⟨hxv, hy, _⟩
    · exact .inl he
    · exact .inr ⟨hxv, by rw [hm]; exact hy⟩
  have hseg : ∀ a x, x ∈ s.stk → (Seg s' a x ↔ Seg s a x) := fun a x hx => by
    unfold Seg
    rw [hnodes, ho' x hx]
    have hc := hlc x hx
    constructor
    · rintro ⟨h1, h2, h3⟩
      have ha : a ∈ s.nodes := by
        rcases List.mem_append.1 h1 with h1 | h1
        · exact h1
        · simp at h1; subst h1; rw [q1] at h2; omega
      rw [ho' a (hnd a ha)] at h2 h3
      exact ⟨ha, h2, fun u hu hux => by have := h3 u (List.mem_append_left _ hu) (by rw [ho' u (hnd u hu)]; exact hux); rwa [ho' u (hnd u hu)] at this⟩
    · rintro ⟨h1, h2, h3⟩
      rw [ho' a (hnd a h1)]
      refine ⟨List.mem_append_left _ h1, h2, fun u hu hux => ?_⟩
      rcases List.mem_append.1 hu with hu | hu
      · rw [ho' u (hnd u hu)] at hux ⊢; exact h3 u hu hux
      · simp at hu; subst hu; rw [q1] at hux; omega
  refine ⟨fun x hx => ?_, fun x y hx hy hxy hx0 => ?_, fun x hx => ?_, ?_, fun p hp => ?_, ?_, fun x hx y he => ?_, fun x hx => ?_, fun u hu x hx hux => ?_, fun u hu => ?_, fun a x y hs hx he hy => ?_, fun x hx hx0 hxs y hy => ?_⟩
  · by_cases hxm : x = m
    · subst hxm; rw [q1, q7]; omega
    · rw [q2 x hx hxm, q7]; have := h.pos x hx; omega
  · by_cases hxm : x = m <;> by_cases hym : y = m
    · rw [hxm, hym]
    · subst hxm; rw [q1, q2 y hy hym] at hxy; have := h.pos y hy; omega
    · subst hym; rw [q1, q2 x hx hxm] at hxy; have := h.pos x hx; omega
    · rw [q2 x hx hxm, q2 y hy hym] at hxy; rw [q2 x hx hxm] at hx0; exact h.inj x y hx hy hxy hx0
  · rw [q5] at hx
    rcases List.mem_append.1 hx with hx | hx
    · exact ⟨(h.stk x hx).1, by rw [ho' x hx]; exact (h.stk x hx).2⟩
    · simp at hx; subst hx; exact ⟨hmo, by rw [q1]; omega⟩
  · rw [q5, List.pairwise_append]
    refine ⟨h.inc.imp_of_mem fun {x y} hx hy hxy => by rw [ho' x hx, ho' y hy]; exact hxy, by simp, fun x hx y hy => ?_⟩
    simp at hy; subst hy
    rw [ho' x hx, q1]; have := hlc x hx; omega
  · rw [q6] at hp
    rw [q5]
    rcases List.mem_append.1 hp with hp | hp
    · rcases List.mem_append.1 hp with hp | hp
      · have := h.opn p (by rw [ho]; simp [hp]); exact ⟨List.mem_append_left _ this.1, this.2⟩
      · simp at hp; subst hp; exact ⟨List.mem_append_left _ hvk.1, by have := hvk.2.1; simp at this ⊢; omega, by simp; omega⟩
    · simp at hp; subst hp; exact ⟨by simp, Int.le_refl _, by simp⟩
  · rw [q6, List.pairwise_append]
    have hst : ∀ p ∈ o ++ [(v, k + 1)], p.1 ∈ s.stk := fun p hp => by
      rcases List.mem_append.1 hp with hp | hp
      · exact (h.opn p (by rw [ho]; simp [hp])).1
      · simp at hp; subst hp; exact hvk.1
    have hpw : (o ++ [(v, k + 1)]).Pairwise (fun p q => s.ord p.1 < s.ord q.1) := by
      have := h.opi
      rw [ho, List.pairwise_append] at this
      rw [List.pairwise_append]
      refine ⟨this.1, by simp, fun p hp q hq => ?_⟩
      simp at hq
      subst hq
      exact this.2.2 p hp (v, k) (by simp)
    refine ⟨hpw.imp_of_mem fun {p q} hp hq hpq => by rw [ho' _ (hst p hp), ho' _ (hst q hq)]; exact hpq, by simp, fun p hp q hq => ?_⟩
    simp at hq; subst hq
    show s'.ord p.1 < s'.ord m
    rw [ho' _ (hst p hp), q1]; have := hlc _ (hst p hp); omega
  · obtain ⟨hxm, he⟩ := hexd x y he
    have hx' : x ∈ s.stk := by
      rw [q5] at hx
      rcases List.mem_append.1 hx with hx | hx
      · exact hx
      · simp at hx; exact absurd hx hxm
    rcases he with he | ⟨_, rfl⟩
    · by_cases hym : y = m
      · subst hym; rw [q1]; omega
      · rw [q2 y he.1.2.1 hym]; exact h.exd x hx' y he
    · rw [q1]; omega
  · rw [q5] at hx
    rcases List.mem_append.1 hx with hx | hx
    · obtain ⟨a, hs, hr⟩ := h.s1 x hx
      exact ⟨a, (hseg a x hx).2 hs, hr⟩
    · simp at hx; subst hx
      refine ⟨x, ⟨by rw [hnodes]; simp, Int.le_refl _, fun u _ hu => hu⟩, .refl x⟩
  · rw [hnodes] at hu
    rw [q5] at hx
    rcases List.mem_append.1 hu with hu2 | hu2 <;> rcases List.mem_append.1 hx with hx2 | hx2
    · rw [ho' u (hnd u hu2), ho' x hx2] at hux; exact h.s2 u hu2 x hx2 hux
    · have hx3 : x = m := by simpa using hx2
      rw [hx3]
      exact (h.s2 u hu2 v hl.1 (hl.2.2.2.2 u hu2)).trans (.one e)
    · have hu3 : u = m := by simpa using hu2
      rw [hu3, q1, ho' x hx2] at hux; have := hlc x hx2; omega
    · have hu3 : u = m := by simpa using hu2
      have hx3 : x = m := by simpa using hx2
      rw [hu3, hx3]; exact .refl _
  · rw [hnodes] at hu
    rcases List.mem_append.1 hu with hu | hu
    · obtain ⟨r1, z, hz, r2, r3⟩ := h.l1 u (hu)
      have hum : u ≠ m := fun e => hmn (by rw [← e]; exact hu)
      rw [q4 u (h.stk u (hnd u hu)).1 hum, ho' u (hnd u hu)]
      exact ⟨r1, z, by rw [q5]; exact List.mem_append_left _ hz, by rw [ho' z hz]; exact r2, r3⟩
    · simp at hu; subst hu
      exact ⟨by rw [q1, q3]; exact Int.le_refl _, u, by rw [q5]; simp, by rw [q1, q3], .refl u⟩
  · obtain ⟨hxm, he⟩ := hexd x y he
    have hx' : x ∈ s.stk := by
      rw [q5] at hx
      rcases List.mem_append.1 hx with hx | hx
      · exact hx
      · simp at hx; exact absurd hx hxm
    have hs' := (hseg a x hx').1 hs
    have ha := hnd a hs'.1
    have ham : a ≠ m := hns a ha
    rw [q4 a (h.stk a ha).1 ham]
    have hla : s.low a ≤ s.clk := by have := (h.l1 a hs'.1).1; have := hlc a ha; omega
    by_cases hym : y = m
    · subst hym; rw [q1]; omega
    · have hy' : y ∈ s.stk := by
        rw [q5] at hy
        rcases List.mem_append.1 hy with hy | hy
        · exact hy
        · simp at hy; exact absurd hy hym
      rcases he with he | ⟨_, h2⟩
      · rw [ho' y hy']; exact h.l2 a x y hs' hx' he hy'
      · exact absurd h2 hym
  · rw [q5] at hxs
    have hxm : x ≠ m := fun e => hxs (by simp [e])
    have hxs' : x ∉ s.stk := fun e => hxs (List.mem_append_left _ e)
    rw [q2 x hx hxm] at hx0
    obtain ⟨y1, y2⟩ := h.dn x hx hx0 hxs' y hy
    have hym : y ≠ m := fun e => y1 (by rw [e]; exact h0)
    refine ⟨by rw [q2 y hy.2.1 hym]; exact y1, ?_⟩
    rw [q5]
    simp [y2, hym]
/-- Of a node that is left all edges are explored. -/
theorem Inv.full (h : Inv G may s) (ho : s.opn = o ++ [(v, k)]) (hk : k = ((gt G v).length : Int)) {x y : Int} (hx : x = v ∨ x ∉ s.nodes) (e : Ed G may x y) : Exd G may s x y := by
  obtain ⟨i, hi, hget⟩ := List.getElem_of_mem e.1
  have h1 : ((i : Int)) < ((gt G x).length : Int) := by omega
  refine ⟨e, i, by omega, h1, ?_, fun j hj => ?_⟩
  · have := gt_some (xs := gt G x) (i := (i : Int)) (by omega) h1
    simp only [Int.toNat_natCast] at this
    rw [List.getElem?_eq_getElem hi, hget] at this
    exact (Option.some.inj this).symm
  · rcases hx with rfl | hx
    · have : j = k := h.once hj (by rw [ho]; simp)
      omega
    · exact absurd (List.mem_map.2 ⟨(x, j), hj, rfl⟩) hx
theorem leave_exd (h : Inv G may s) (ho : s.opn = o ++ [(v, k)]) (hk : k = ((gt G v).length : Int)) {s' : S} (q : s'.opn = o) {x y : Int} (he : Exd G may s' x y) : Exd G may s x y := by
  obtain ⟨e, i, i0, i1, i2, i3⟩ := he
  refine ⟨e, i, i0, i1, i2, fun j hj => ?_⟩
  rw [ho] at hj
  rcases List.mem_append.1 hj with hj | hj
  · exact i3 j (by rw [q]; exact hj)
  · simp at hj
    obtain ⟨rfl, rfl⟩ := hj
    omega
/-- A node that reaches an earlier one of the stack is left: its segment joins the one below. -/
theorem Inv.join (h : Inv G may s) {u j : Int} {o : List (Int × Int)} (ho : s.opn = (o ++ [(u, j)]) ++ [(v, k)]) (hk : k = ((gt G v).length : Int)) (hlow : s.low v < s.ord v)
    {s' : S} (q1 : s'.ord = s.ord) (q3 : s'.low u = if s.low v < s.low u then s.low v else s.low u) (q4 : ∀ x, Ok G x → x ≠ u → s'.low x = s.low x)
    (q5 : s'.stk = s.stk) (q6 : s'.opn = o ++ [(u, j)]) (q7 : s'.clk = s.clk) : Inv G may s' := by
  have hl := h.last ho
  have hnodes : s.nodes = s'.nodes ++ [v] := by simp [S.nodes, q6, ho]
  have hun : u ∈ s'.nodes := by simp [S.nodes, q6]
  have hsub : ∀ w ∈ s'.nodes, w ∈ s.nodes := fun w hw => by rw [hnodes]; exact List.mem_append_left _ hw
  have hnd : ∀ w ∈ s.nodes, w ∈ s.stk := fun w hw => by
    obtain ⟨p, hp, rfl⟩ := List.mem_map.1 hw
    exact (h.opn p hp).1
  have hopi := h.opi
  rw [ho, List.pairwise_append] at hopi
  have huv : s.ord u < s.ord v := hopi.2.2 (u, j) (by simp) (v, k) (by simp)
  have hlast : ∀ w ∈ s'.nodes, s.ord w ≤ s.ord u := fun w hw => by
    obtain ⟨p, hp, rfl⟩ := List.mem_map.1 hw
    rw [q6] at hp
    rcases List.mem_append.1 hp with hp | hp
    · have := hopi.1
      rw [List.pairwise_append] at this
      exact Int.le_of_lt (this.2.2 p hp (u, j) (by simp))
    · simp at hp; subst hp; exact Int.le_refl _
  have hvn : v ∉ s'.nodes := fun hv => by have := hlast v hv; omega
  have hsk := fun x hx => h.stk x hx
  obtain ⟨_, z, hz, z1, z2⟩ := h.l1 v hl.2.2.2.1
  have hvu : Rch G may v u := by
    obtain ⟨b, hb, hzb⟩ := h.s1 z hz
    have hbv : b ≠ v := fun e => by have := hb.2.1; rw [e, z1] at this; omega
    have hb' : b ∈ s'.nodes := by
      have := hb.1
      rw [hnodes] at this
      rcases List.mem_append.1 this with h' | h'
      · exact h'
      · simp at h'; exact absurd h' hbv
    exact z2.trans (hzb.trans (h.s2 b hb.1 u (hnd u (hsub u hun)) (hlast b hb')))
  have hle : ∀ w ∈ s'.nodes, s'.low w ≤ s.low w := fun w hw => by
    by_cases hwu : w = u
    · subst hwu; rw [q3]; split <;> omega
    · rw [q4 w (hsk w (hnd w (hsub w hw))).1 hwu]; exact Int.le_refl _
  refine ⟨by rw [q1, q7]; exact h.pos, by rw [q1]; exact h.inj, by rw [q1, q5]; exact h.stk, by rw [q1, q5]; exact h.inc, fun p hp => ?_, by rw [q1, q6]; exact hopi.1, fun x hx y he => ?_, fun x hx => ?_, fun w hw x hx hwx => ?_, fun w hw => ?_, fun a x y hs hx he hy => ?_, by rw [q1, q5]; exact h.dn⟩
  · rw [q5]; exact h.opn p (by rw [ho]; rw [q6] at hp; exact List.mem_append_left _ hp)
  · rw [q1]; rw [q5] at hx; exact h.exd x hx y (leave_exd h ho hk q6 he)
  · rw [q5] at hx
    obtain ⟨a, hs, hr⟩ := h.s1 x hx
    by_cases hav : a = v
    · subst hav
      refine ⟨u, ⟨hun, ?_, fun w hw _ => ?_⟩, hr.trans hvu⟩
      · rw [q1]; have := hs.2.1; omega
      · rw [q1]; exact hlast w hw
    · have ha : a ∈ s'.nodes := by
        have := hs.1
        rw [hnodes] at this
        rcases List.mem_append.1 this with h' | h'
        · exact h'
        · simp at h'; exact absurd h' hav
      exact ⟨a, ⟨ha, by rw [q1]; exact hs.2.1, fun w hw hwx => by rw [q1] at hwx ⊢; exact hs.2.2 w (hsub w hw) hwx⟩, hr⟩
  · rw [q5] at hx; rw [q1] at hwx; exact h.s2 w (hsub w hw) x hx hwx
  · obtain ⟨r1, y, hy, r2, r3⟩ := h.l1 w (hsub w hw)
    refine ⟨by rw [q1]; exact Int.le_trans (hle w hw) r1, ?_⟩
    by_cases hwu : w = u
    · subst hwu
      rw [q1, q3, q5]
      split
      · exact ⟨z, hz, z1, (h.s2 w (hsub w hw) v hl.1 (by omega)).trans z2⟩
      · exact ⟨y, hy, r2, r3⟩
    · rw [q1, q5, q4 w (hsk w (hnd w (hsub w hw))).1 hwu]
      exact ⟨y, hy, r2, r3⟩
  · rw [q5] at hx hy
    rw [q1]
    have he' := leave_exd h ho hk q6 he
    by_cases hvx : s.ord v ≤ s.ord x
    · have hsv : Seg s v x := ⟨hl.2.2.2.1, hvx, fun w hw _ => hl.2.2.2.2 w hw⟩
      have h1 := h.l2 v x y hsv hx he' hy
      have hau : a = u := by
        have h2 := hs.2.2 u hun (by rw [q1]; omega)
        rw [q1] at h2
        have h3 := hlast a hs.1
        exact h.inj a u (hsk a (hnd a (hsub a hs.1))).1 (hsk u (hnd u (hsub u hun))).1 (Int.le_antisymm h3 h2) (hsk a (hnd a (hsub a hs.1))).2
      subst hau
      rw [q3]
      split <;> omega
    · have hsa : Seg s a x := ⟨hsub a hs.1, by have := hs.2.1; rwa [q1] at this, fun w hw hwx => by
        have hw' : w ∈ s'.nodes := by
          rw [hnodes] at hw
          rcases List.mem_append.1 hw with h' | h'
          · exact h'
          · simp at h'; subst h'; exact absurd hwx hvx
        have := hs.2.2 w hw' (by rw [q1]; exact hwx)
        rwa [q1] at this⟩
      exact Int.le_trans (hle a hs.1) (h.l2 a x y hsa hx he' hy)
/-- What stands on the stack from a node on. -/
theorem Inv.split (h : Inv G may s) {s1 s2 : List Int} (hst : s.stk = s1 ++ v :: s2) : (∀ x ∈ s1, s.ord x < s.ord v) ∧ ∀ x ∈ s2, s.ord v < s.ord x := by
  have := h.inc
  rw [hst, List.pairwise_append, List.pairwise_cons] at this
  exact ⟨fun x hx => this.2.2 x hx v (by simp), this.2.1.1⟩
/-- A node that reaches no earlier one is left: it and what stands behind it is a class. -/
theorem Inv.part (h : Inv G may s) (ho : s.opn = o ++ [(v, k)]) (hk : k = ((gt G v).length : Int)) (hlow : ¬ s.low v < s.ord v) {s1 s2 : List Int} (hst : s.stk = s1 ++ v :: s2)
    {s' : S} (q1 : s'.ord = s.ord) (q4 : ∀ w, w ∈ o.map (·.1) → s'.low w = s.low w) (q5 : s'.stk = s1) (q6 : s'.opn = o) (q7 : s'.clk = s.clk) :
    Inv G may s' ∧ (∀ x ∈ v :: s2, Rch G may x v ∧ Rch G may v x) ∧ ∀ x ∈ v :: s2, ∀ y, Rch G may x y → y ∈ v :: s2 ∨ (Ok G y ∧ s.ord y ≠ 0 ∧ y ∉ s.stk) := by
  have hl := h.last ho
  obtain ⟨hs1, hs2⟩ := h.split hst
  have hnodes : s.nodes = s'.nodes ++ [v] := by simp [S.nodes, q6, ho]
  have hsub : ∀ w ∈ s'.nodes, w ∈ s.nodes := fun w hw => by rw [hnodes]; exact List.mem_append_left _ hw
  have hnd : ∀ w ∈ s.nodes, w ∈ s.stk := fun w hw => by
    obtain ⟨p, hp, rfl⟩ := List.mem_map.1 hw
    exact (h.opn p hp).1
  have hopi := h.opi
  rw [ho, List.pairwise_append] at hopi
  have hlt : ∀ w ∈ s'.nodes, s.ord w < s.ord v := fun w hw => by
    obtain ⟨p, hp, rfl⟩ := List.mem_map.1 hw
    exact hopi.2.2 p (by rw [q6] at hp; exact hp) (v, k) (by simp)
  have hm1 : ∀ x, x ∈ s1 → x ∈ s.stk := fun x hx => by rw [hst]; simp [hx]
  have hmp : ∀ x, x ∈ v :: s2 → x ∈ s.stk := fun x hx => by rw [hst]; exact List.mem_append_right _ hx
  have hpo : ∀ x ∈ v :: s2, s.ord v ≤ s.ord x := fun x hx => by
    rcases List.mem_cons.1 hx with rfl | hx
    · exact Int.le_refl _
    · exact Int.le_of_lt (hs2 x hx)
  have hback : ∀ x ∈ s.stk, s.ord x < s.ord v → x ∈ s1 := fun x hx hlt => by
    rw [hst] at hx
    rcases List.mem_append.1 hx with hx | hx
    · exact hx
    · have := hpo x hx; omega
  have hlv := (h.l1 v hl.2.2.2.1).1
  have hpart : ∀ x ∈ v :: s2, ∀ y, Ed G may x y → y ∈ v :: s2 ∨ (Ok G y ∧ s.ord y ≠ 0 ∧ y ∉ s.stk) := fun x hx y e => by
    have hxn : x = v ∨ x ∉ s.nodes := by
      by_cases hxv : x = v
      · exact .inl hxv
      · refine .inr fun hn => ?_
        rw [hnodes] at hn
        rcases List.mem_append.1 hn with h' | h'
        · have := hlt x h'; have := hpo x hx; omega
        · simp at h'; exact hxv h'
    have he := h.full ho hk hxn e
    have hy0 := h.exd x (hmp x hx) y he
    by_cases hys : y ∈ s.stk
    · left
      have := h.l2 v x y ⟨hl.2.2.2.1, hpo x hx, fun w hw _ => hl.2.2.2.2 w hw⟩ (hmp x hx) he hys
      rw [hst] at hys
      rcases List.mem_append.1 hys with h' | h'
      · have := hs1 y h'; omega
      · exact h'
    · exact .inr ⟨e.2.1, hy0, hys⟩
  refine ⟨⟨by rw [q1, q7]; exact h.pos, by rw [q1]; exact h.inj, fun x hx => ?_, ?_, fun p hp => ?_, by rw [q1, q6]; exact hopi.1, fun x hx y he => ?_, fun x hx => ?_, fun w hw x hx hwx => ?_, fun w hw => ?_, fun a x y hs hx he hy => ?_, fun x hx hx0 hxs y hy => ?_⟩, fun x hx => ?_, fun x hx y hxy => ?_⟩
  · rw [q5] at hx; rw [q1]; exact h.stk x (hm1 x hx)
  · rw [q5, q1]
    have := h.inc
    rw [hst, List.pairwise_append] at this
    exact this.1
  · rw [q6] at hp
    have h1 := h.opn p (by rw [ho]; exact List.mem_append_left _ hp)
    rw [q5]
    exact ⟨hback _ h1.1 (hlt p.1 (by simp only [S.nodes, q6]; exact List.mem_map.2 ⟨p, hp, rfl⟩)), h1.2⟩
  · rw [q5] at hx; rw [q1]; exact h.exd x (hm1 x hx) y (leave_exd h ho hk q6 he)
  · rw [q5] at hx
    obtain ⟨a, hs, hr⟩ := h.s1 x (hm1 x hx)
    have hx1 := hs1 x hx
    have ha : a ∈ s'.nodes := by
      have := hs.1
      rw [hnodes] at this
      rcases List.mem_append.1 this with h' | h'
      · exact h'
      · simp at h'; subst h'; have := hs.2.1; omega
    exact ⟨a, ⟨ha, by rw [q1]; exact hs.2.1, fun w hw hwx => by rw [q1] at hwx ⊢; exact hs.2.2 w (hsub w hw) hwx⟩, hr⟩
  · rw [q5] at hx; rw [q1] at hwx; exact h.s2 w (hsub w hw) x (hm1 x hx) hwx
  · obtain ⟨r1, y, hy, r2, r3⟩ := h.l1 w (hsub w hw)
    have hw' : w ∈ o.map (·.1) := by simpa only [S.nodes, q6] using hw
    rw [q1, q4 w hw', q5]
    have := hlt w hw
    exact ⟨r1, y, hback y hy (by omega), r2, r3⟩
  · rw [q5] at hx hy
    have he' := leave_exd h ho hk q6 he
    have hx1 := hs1 x hx
    have ha' : a ∈ o.map (·.1) := by have := hs.1; simpa only [S.nodes, q6] using this
    have hsa : Seg s a x := ⟨hsub a hs.1, by have := hs.2.1; rwa [q1] at this, fun w hw hwx => by
      have hw' : w ∈ s'.nodes := by
        rw [hnodes] at hw
        rcases List.mem_append.1 hw with h' | h'
        · exact h'
        · simp at h'; subst h'; omega
      have := hs.2.2 w hw' (by rw [q1]; exact hwx)
      rwa [q1] at this⟩
    rw [q1, q4 a ha']
    exact h.l2 a x y hsa (hm1 x hx) he' (hm1 y hy)
  · rw [q5] at hxs ⊢
    rw [q1] at hx0 ⊢
    by_cases hxk : x ∈ s.stk
    · have hxp : x ∈ v :: s2 := by
        rw [hst] at hxk
        rcases List.mem_append.1 hxk with h' | h'
        · exact absurd h' hxs
        · exact h'
      rcases hpart x hxp y hy with h' | h'
      · refine ⟨(h.stk y (hmp y h')).2, fun hy1 => ?_⟩
        have := hs1 y hy1; have := hpo y h'; omega
      · exact ⟨h'.2.1, fun hy1 => h'.2.2 (hm1 y hy1)⟩
    · have := h.dn x hx hx0 hxk y hy
      exact ⟨this.1, fun hy1 => this.2 (hm1 y hy1)⟩
  · refine ⟨?_, h.s2 v hl.2.2.2.1 x (hmp x hx) (hpo x hx)⟩
    obtain ⟨a, hs, hr⟩ := h.s1 x (hmp x hx)
    have h1 := hs.2.2 v hl.2.2.2.1 (hpo x hx)
    have h2 := hl.2.2.2.2 a hs.1
    have : a = v := h.inj a v (h.stk a (hnd a hs.1)).1 hl.2.1 (Int.le_antisymm h2 h1) (h.stk a (hnd a hs.1)).2
    rw [this] at hr
    exact hr
  · have hdone : ∀ a b, Rch G may a b → Ok G a ∧ s.ord a ≠ 0 ∧ a ∉ s.stk → Ok G b ∧ s.ord b ≠ 0 ∧ b ∉ s.stk := fun a b hab => by
      induction hab with
      | refl => exact id
      | step e _ ih => exact fun ha => ih ⟨e.2.1, h.dn _ ha.1 ha.2.1 ha.2.2 _ e⟩
    induction hxy with
    | refl => exact .inl hx
    | step e r ih =>
      rcases hpart _ hx _ e with h' | h'
      · exact ih h'
      · exact .inr (hdone _ _ r h')
/-- Nothing has been met. -/
theorem Inv.init : Inv G may ⟨fun _ => 0, fun _ => 0, [], [], 0⟩ := by
  refine ⟨fun _ _ => ⟨Int.le_refl _, Int.le_refl _⟩, fun _ _ _ _ _ h => absurd rfl h, fun _ h => ?_, List.Pairwise.nil, fun _ h => ?_, List.Pairwise.nil, fun _ h => ?_, fun _ h => ?_, fun _ h => ?_, fun _ h => ?_, fun _ _ _ h => ?_, fun _ _ h => absurd rfl h⟩ <;> first | (cases h; done) | (cases h.1; done)
/-- A walk begins. -/
theorem Inv.start (h : Inv G may s) (ho : s.opn = []) (hs : s.stk = []) {m : Int} (hm : Ok G m) (h0 : s.ord m = 0)
    {s' : S} (q1 : s'.ord m = s.clk + 1) (q2 : ∀ x, Ok G x → x ≠ m → s'.ord x = s.ord x) (q3 : s'.low m = s.clk + 1)
    (q5 : s'.stk = [m]) (q6 : s'.opn = [(m, 0)]) (q7 : s'.clk = s.clk + 1) : Inv G may s' := by
  have hpm := h.pos m hm
  have hnodes : s'.nodes = [m] := by simp [S.nodes, q6]
  have hexd : ∀ x y, x = m → ¬ Exd G may s' x y := fun x y hx ⟨_, i, i0, _, _, i3⟩ => by
    have := i3 0 (by rw [q6, hx]; simp)
    omega
  refine ⟨fun x hx => ?_, fun x y hx hy hxy hx0 => ?_, fun x hx => ?_, by rw [q5]; simp, fun p hp => ?_, by rw [q6]; simp, fun x hx y he => ?_, fun x hx => ?_, fun u hu x hx hux => ?_, fun u hu => ?_, fun a x y hsg hx he hy => ?_, fun x hx hx0 hxs y hy => ?_⟩
  · by_cases hxm : x = m
    · subst hxm; rw [q1, q7]; omega
    · rw [q2 x hx hxm, q7]; have := h.pos x hx; omega
  · by_cases hxm : x = m <;> by_cases hym : y = m
    · rw [hxm, hym]
    · subst hxm; rw [q1, q2 y hy hym] at hxy; have := h.pos y hy; omega
    · subst hym; rw [q1, q2 x hx hxm] at hxy; have := h.pos x hx; omega
    · rw [q2 x hx hxm, q2 y hy hym] at hxy; rw [q2 x hx hxm] at hx0; exact h.inj x y hx hy hxy hx0
  · rw [q5] at hx; simp at hx; subst hx; exact ⟨hm, by rw [q1]; omega⟩
  · rw [q6] at hp; simp at hp; subst hp; exact ⟨by rw [q5]; simp, Int.le_refl _, by simp⟩
  · rw [q5] at hx; simp at hx; exact absurd he (hexd x y hx)
  · rw [q5] at hx; simp at hx; subst hx
    exact ⟨x, ⟨by rw [hnodes]; simp, Int.le_refl _, fun u _ hu => hu⟩, .refl x⟩
  · rw [q5] at hx; rw [hnodes] at hu; simp at hx hu; subst hx; subst hu; exact .refl _
  · rw [hnodes] at hu; simp at hu; subst hu
    exact ⟨by rw [q1, q3]; exact Int.le_refl _, u, by rw [q5]; simp, by rw [q1, q3], .refl u⟩
  · rw [q5] at hx; simp at hx; exact absurd he (hexd x y hx)
  · have hxm : x ≠ m := fun e => hxs (by rw [q5, e]; simp)
    rw [q2 x hx hxm] at hx0
    obtain ⟨y1, _⟩ := h.dn x hx hx0 (by rw [hs]; simp) y hy
    have hym : y ≠ m := fun e => y1 (by rw [e]; exact h0)
    exact ⟨by rw [q2 y hy.2.1 hym]; exact y1, by rw [q5]; simp [hym]⟩
/-- What has been told so far, and what is done. -/
structure Out (s : S) (out : List (List Int)) : Prop where
  el : ∀ p ∈ out, ∀ x ∈ p, Ok G x ∧ s.ord x ≠ 0 ∧ x ∉ s.stk
  all : ∀ x, Ok G x → s.ord x ≠ 0 → x ∉ s.stk → ∃ p ∈ out, x ∈ p
  ne : ∀ p ∈ out, p ≠ []
  cls : ∀ p ∈ out, ∀ x ∈ p, ∀ y, y ∈ p ↔ Rch G may x y ∧ Rch G may y x
  asc : ∀ p ∈ out, p.Pairwise (· < ·)
  dis : out.Pairwise (fun p q => ∀ x ∈ p, x ∉ q)
theorem Out.init : Out (G := G) (may := may) ⟨fun _ => 0, fun _ => 0, [], [], 0⟩ [] :=
  ⟨fun _ h => (by cases h), fun _ _ h => absurd rfl h, fun _ h => (by cases h), fun _ h => (by cases h), fun _ h => (by cases h), List.Pairwise.nil⟩
theorem Out.same {out : List (List Int)} (t : Out (G := G) (may := may) s out) {s' : S} (q1 : ∀ x, Ok G x → x ∉ s'.stk → s'.ord x = s.ord x) (q5 : ∀ x, Ok G x → s'.ord x ≠ 0 → (x ∈ s'.stk ↔ x ∈ s.stk ∨ s.ord x = 0)) (q0 : ∀ x, Ok G x → s.ord x ≠ 0 → s'.ord x ≠ 0) : Out (G := G) (may := may) s' out :=
  ⟨fun p hp x hx => by
      obtain ⟨h1, h2, h3⟩ := t.el p hp x hx
      exact ⟨h1, q0 x h1 h2, fun h => ((q5 x h1 (q0 x h1 h2)).1 h).elim h3 h2⟩,
    fun x hx hx0 hxs => t.all x hx (by rw [← q1 x hx hxs]; exact hx0) fun h => hxs ((q5 x hx hx0).2 (.inl h)), t.ne, t.cls, t.asc, t.dis⟩
/-- A class is told. -/
theorem Out.part {out : List (List Int)} (t : Out (G := G) (may := may) s out) (h : Inv G may s) {s1 s2 p : List Int} (hst : s.stk = s1 ++ v :: s2) (hp : ∀ x, x ∈ p ↔ x ∈ v :: s2) (hasc : p.Pairwise (· < ·))
    (h1 : ∀ x ∈ v :: s2, Rch G may x v ∧ Rch G may v x) (h2 : ∀ x ∈ v :: s2, ∀ y, Rch G may x y → y ∈ v :: s2 ∨ (Ok G y ∧ s.ord y ≠ 0 ∧ y ∉ s.stk))
    {s' : S} (q1 : s'.ord = s.ord) (q5 : s'.stk = s1) : Out (G := G) (may := may) s' (out ++ [p]) := by
  obtain ⟨hs1, hs2⟩ := h.split hst
  have hmp : ∀ x, x ∈ v :: s2 → x ∈ s.stk := fun x hx => by rw [hst]; exact List.mem_append_right _ hx
  have hsub : ∀ x, x ∈ s1 → x ∈ s.stk := fun x hx => by rw [hst]; simp [hx]
  have hno : ∀ x, x ∈ v :: s2 → x ∉ s1 := fun x hx hx1 => by
    have := hs1 x hx1
    rcases List.mem_cons.1 hx with rfl | hx
    · omega
    · have := hs2 x hx; omega
  have hdone : ∀ a b, Rch G may a b → Ok G a ∧ s.ord a ≠ 0 ∧ a ∉ s.stk → b ∉ s.stk := fun a b hab => by
    have : Ok G a ∧ s.ord a ≠ 0 ∧ a ∉ s.stk → Ok G b ∧ s.ord b ≠ 0 ∧ b ∉ s.stk := by
      induction hab with
      | refl => exact id
      | step e _ ih => exact fun ha => ih ⟨e.2.1, h.dn _ ha.1 ha.2.1 ha.2.2 _ e⟩
    exact fun ha => (this ha).2.2
  refine ⟨fun q hq x hx => ?_, fun x hx hx0 hxs => ?_, fun q hq => ?_, fun q hq x hx y => ?_, fun q hq => ?_, ?_⟩
  · rcases List.mem_append.1 hq with hq | hq
    · obtain ⟨a, b, c⟩ := t.el q hq x hx
      exact ⟨a, by rw [q1]; exact b, by rw [q5]; exact fun h => c (hsub x h)⟩
    · simp at hq; subst hq
      have hx' := (hp x).1 hx
      have := h.stk x (hmp x hx')
      exact ⟨this.1, by rw [q1]; exact this.2, by rw [q5]; exact hno x hx'⟩
  · rw [q1] at hx0
    rw [q5] at hxs
    by_cases hxk : x ∈ s.stk
    · rw [hst] at hxk
      rcases List.mem_append.1 hxk with h' | h'
      · exact absurd h' hxs
      · exact ⟨p, by simp, (hp x).2 h'⟩
    · obtain ⟨q, hq, hxq⟩ := t.all x hx hx0 hxk
      exact ⟨q, List.mem_append_left _ hq, hxq⟩
  · rcases List.mem_append.1 hq with hq | hq
    · exact t.ne q hq
    · simp at hq; subst hq
      intro e
      have := (hp v).2 (by simp)
      rw [e] at this
      cases this
  · rcases List.mem_append.1 hq with hq | hq
    · exact t.cls q hq x hx y
    · simp at hq; subst hq
      have hx' := (hp x).1 hx
      rw [hp]
      constructor
      · intro hy
        exact ⟨(h1 x hx').1.trans (h1 y hy).2, (h1 y hy).1.trans (h1 x hx').2⟩
      · rintro ⟨hxy, hyx⟩
        rcases h2 x hx' y hxy with h' | h'
        · exact h'
        · exact absurd (hmp x hx') (hdone y x hyx h')
  · rcases List.mem_append.1 hq with hq | hq
    · exact t.asc q hq
    · simp at hq; subst hq; exact hasc
  · rw [List.pairwise_append]
    refine ⟨t.dis, by simp, fun a ha b hb x hx hxb => ?_⟩
    simp at hb; subst hb
    exact (t.el a ha x hx).2.2 (hmp x ((hp x).1 hxb))
end
end Go.Bw.Tj
