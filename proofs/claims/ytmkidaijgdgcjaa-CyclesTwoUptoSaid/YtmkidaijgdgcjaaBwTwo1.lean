/- CyclesTwo: two graphs side by side. Conditions: none. -/
import Derived.Test.YtmkidaijgdgcjaaBwTurn1
set_option linter.unusedVariables false
set_option linter.unusedSimpArgs false
set_option linter.unusedSectionVars false
namespace Go.Bw
open Go Go.RowKit Tj

/-- The graph C is A, and behind it B. -/
structure Side (A B C : List (List Int)) : Prop where
  len : C.length = A.length + B.length
  fst : ∀ u, Tj.Ok A u → ∀ v, v ∈ gt C u ↔ v ∈ gt A u ∧ Tj.Ok A v
  snd : ∀ u, Tj.Ok B u → ∀ v, v ∈ gt C (u + A.length) ↔ ∃ w, v = w + A.length ∧ w ∈ gt B u ∧ Tj.Ok B w
section
variable {A B C : List (List Int)} {may may' : Int → Bool}
theorem Side.okA (h : Side A B C) {x : Int} (hx : Tj.Ok A x) : Tj.Ok C x := ⟨hx.1, by have := hx.2; have := h.len; omega⟩
theorem Side.okB (h : Side A B C) {x : Int} (hx : Tj.Ok B x) : Tj.Ok C (x + A.length) := ⟨by have := hx.1; omega, by have := hx.2; have := h.len; omega⟩
theorem Side.ok (h : Side A B C) {x : Int} (hx : Tj.Ok C x) : Tj.Ok A x ∨ ∃ y, x = y + A.length ∧ Tj.Ok B y := by
  by_cases hl : x < (A.length : Int)
  · exact .inl ⟨hx.1, hl⟩
  · exact .inr ⟨x - A.length, by omega, by omega, by have := hx.2; have := h.len; omega⟩
theorem Side.edA (h : Side A B C) (hm : ∀ x, Tj.Ok A x → may x = may' x) {u v : Int} (hu : Tj.Ok A u) : Ed C may u v ↔ Ed A may' u v := by
  unfold Ed
  rw [h.fst u hu v]
  constructor
  · rintro ⟨⟨a, b⟩, _, c⟩; exact ⟨a, b, by rw [← hm v b]; exact c⟩
  · rintro ⟨a, b, c⟩; exact ⟨⟨a, b⟩, h.okA b, by rw [hm v b]; exact c⟩
theorem Side.edB (h : Side A B C) (hm : ∀ x, Tj.Ok B x → may (x + A.length) = may' x) {u v : Int} (hu : Tj.Ok B u) : Ed C may (u + A.length) v ↔ ∃ w, v = w + A.length ∧ Ed B may' u w := by
  unfold Ed
  rw [h.snd u hu v]
  constructor
  · rintro ⟨⟨w, rfl, a, b⟩, _, c⟩; exact ⟨w, rfl, a, b, by rw [← hm w b]; exact c⟩
  · rintro ⟨w, rfl, a, b, c⟩; exact ⟨⟨w, rfl, a, b⟩, h.okB b, by rw [hm w b]; exact c⟩
theorem Rch.ok {G : List (List Int)} {x y : Int} (h : Rch G may x y) (hx : Tj.Ok G x) : Tj.Ok G y := by
  induction h with
  | refl => exact hx
  | step e _ ih => exact ih e.2.1
theorem Side.rchA (h : Side A B C) (hm : ∀ x, Tj.Ok A x → may x = may' x) {x y : Int} (hx : Tj.Ok A x) : Rch C may x y ↔ Rch A may' x y := by
  constructor
  · intro r
    induction r with
    | refl => exact .refl _
    | step e _ ih => have e' := (h.edA hm hx).1 e; exact .step e' (ih e'.2.1)
  · intro r
    induction r with
    | refl => exact .refl _
    | step e _ ih => exact .step ((h.edA hm hx).2 e) (ih e.2.1)
theorem Side.rchB (h : Side A B C) (hm : ∀ x, Tj.Ok B x → may (x + A.length) = may' x) {x z : Int} (hx : Tj.Ok B x) : Rch C may (x + A.length) z ↔ ∃ y, z = y + A.length ∧ Rch B may' x y := by
  constructor
  · intro r
    generalize hw : x + (A.length : Int) = w at r
    induction r generalizing x with
    | refl => subst hw; exact ⟨x, rfl, .refl _⟩
    | step e _ ih =>
      subst hw
      obtain ⟨w, rfl, e'⟩ := (h.edB hm hx).1 e
      obtain ⟨y, rfl, r⟩ := ih e'.2.1 rfl
      exact ⟨y, rfl, .step e' r⟩
  · rintro ⟨y, rfl, r⟩
    induction r with
    | refl => exact .refl _
    | step e _ ih => exact .step ((h.edB hm hx).2 ⟨_, rfl, e⟩) (ih e.2.1)
/-- A part further on. -/
def shift (n : Int) (p : List Int) : List Int := p.map (· + n)
theorem mem_shift {n : Int} {p : List Int} {x : Int} : x + n ∈ shift n p ↔ x ∈ p := by
  unfold shift
  rw [List.mem_map]
  constructor
  · rintro ⟨y, hy, e⟩; rwa [show x = y from by omega]
  · intro h; exact ⟨x, h, rfl⟩
theorem Side.parts (h : Side A B C) {outA outB : List (List Int)} (hA : Parts A (fun _ => true) outA) (hB : Parts B (fun _ => true) outB) : Parts C (fun _ => true) (outA ++ outB.map (shift A.length)) := by
  have hm : ∀ x, Tj.Ok A x → (fun _ => true : Int → Bool) x = (fun _ => true : Int → Bool) x := fun _ _ => rfl
  have hm' : ∀ x, Tj.Ok B x → (fun _ => true : Int → Bool) (x + A.length) = (fun _ => true : Int → Bool) x := fun _ _ => rfl
  have hs : ∀ {p : List Int} {x : Int}, x ∈ shift A.length p → ∃ y, x = y + A.length ∧ y ∈ p := fun {p x} hx => by
    unfold shift at hx
    rw [List.mem_map] at hx
    obtain ⟨y, hy, e⟩ := hx
    exact ⟨y, e.symm, hy⟩
  refine ⟨fun p hp x hx => ?_, fun x hx _ => ?_, fun p hp => ?_, fun p hp x hx y => ?_, fun p hp => ?_, ?_, ?_⟩
  · rcases List.mem_append.1 hp with hp | hp
    · exact ⟨h.okA (hA.el p hp x hx).1, rfl⟩
    · obtain ⟨q, hq, rfl⟩ := List.mem_map.1 hp
      obtain ⟨y, rfl, hy⟩ := hs hx
      exact ⟨h.okB (hB.el q hq y hy).1, rfl⟩
  · rcases h.ok hx with hx | ⟨y, rfl, hy⟩
    · obtain ⟨p, hp, hxp⟩ := hA.all x hx rfl
      exact ⟨p, List.mem_append_left _ hp, hxp⟩
    · obtain ⟨p, hp, hyp⟩ := hB.all y hy rfl
      exact ⟨shift A.length p, List.mem_append_right _ (List.mem_map.2 ⟨p, hp, rfl⟩), mem_shift.2 hyp⟩
  · rcases List.mem_append.1 hp with hp | hp
    · exact hA.ne p hp
    · obtain ⟨q, hq, rfl⟩ := List.mem_map.1 hp
      intro e
      exact hB.ne q hq (by unfold shift at e; simpa using e)
  · rcases List.mem_append.1 hp with hp | hp
    · have hx' := (hA.el p hp x hx).1
      rw [hA.cls p hp x hx y]
      constructor
      · rintro ⟨a, b⟩; exact ⟨(h.rchA hm hx').2 a, (h.rchA hm (Rch.ok a hx')).2 b⟩
      · rintro ⟨a, b⟩
        have a' := (h.rchA hm hx').1 a
        exact ⟨a', (h.rchA hm (Rch.ok a' hx')).1 b⟩
    · obtain ⟨q, hq, rfl⟩ := List.mem_map.1 hp
      obtain ⟨u, rfl, hu⟩ := hs hx
      have hu' := (hB.el q hq u hu).1
      constructor
      · intro hy
        obtain ⟨v, rfl, hv⟩ := hs hy
        obtain ⟨a, b⟩ := (hB.cls q hq u hu v).1 hv
        exact ⟨(h.rchB hm' hu').2 ⟨v, rfl, a⟩, (h.rchB hm' (Rch.ok a hu')).2 ⟨u, rfl, b⟩⟩
      · rintro ⟨a, b⟩
        obtain ⟨v, rfl, a'⟩ := (h.rchB hm' hu').1 a
        obtain ⟨u', e, b'⟩ := (h.rchB hm' (Rch.ok a' hu')).1 b
        have : u' = u := by omega
        subst this
        exact mem_shift.2 ((hB.cls q hq u' hu v).2 ⟨a', b'⟩)
  · rcases List.mem_append.1 hp with hp | hp
    · exact hA.asc p hp
    · obtain ⟨q, hq, rfl⟩ := List.mem_map.1 hp
      unfold shift
      rw [List.pairwise_map]
      exact (hB.asc q hq).imp fun {a b} h => by omega
  · rw [List.pairwise_append]
    refine ⟨hA.dis, ?_, fun p hp q hq x hx hxq => ?_⟩
    · rw [List.pairwise_map]
      refine hB.dis.imp fun {p q} hd x hx hxq => ?_
      obtain ⟨y, rfl, hy⟩ := hs hx
      exact hd y hy (mem_shift.1 hxq)
    · obtain ⟨r, hr, rfl⟩ := List.mem_map.1 hq
      obtain ⟨y, rfl, hy⟩ := hs hxq
      have h1 := (hA.el p hp _ hx).1.2
      have h2 := (hB.el r hr y hy).1.1
      omega
  · have h1 := hA.len
    have h2 := hB.len
    have h3 := h.len
    simp
    omega
theorem Side.comps (h : Side A B C) {outA outB outC : List (List Int)} (hA : Parts A (fun _ => true) outA) (hB : Parts B (fun _ => true) outB) (hC : Parts C (fun _ => true) outC) :
    byHead outC = byHead outA ++ (byHead outB).map (shift A.length) := by
  have hP := h.parts hA hB
  rw [hC.same hP (fun x => Iff.rfl) (fun x y _ _ => Iff.rfl)]
  refine hP.byHead_eq ?_ fun p => ?_
  · rw [List.pairwise_append]
    have hne : ∀ q ∈ byHead outB, 0 < q.length := fun q hq => List.length_pos_iff.2 (hB.ne q (mem_byHead.1 hq))
    have hsg : ∀ q ∈ byHead outB, gt (shift A.length q) 0 = gt q 0 + A.length := fun q hq => by
      have := hne q hq
      unfold shift gt
      match q, this with
      | a :: q, _ => simp
    refine ⟨hA.heads, ?_, fun p hp q hq => ?_⟩
    · rw [List.pairwise_map]
      refine hB.heads.imp_of_mem fun {p q} hp hq hlt => ?_
      rw [hsg p hp, hsg q hq]
      omega
    · obtain ⟨r, hr, rfl⟩ := List.mem_map.1 hq
      rw [hsg r hr]
      have h1 := (hA.el p (mem_byHead.1 hp) _ (gt_mem (Int.le_refl _) (by have := List.length_pos_iff.2 (hA.ne p (mem_byHead.1 hp)); omega))).1.2
      have h2 := (hB.el r (mem_byHead.1 hr) _ (gt_mem (Int.le_refl _) (by have := hne r hr; omega))).1.1
      omega
  · rw [List.mem_append, List.mem_append, mem_byHead, List.mem_map, List.mem_map]
    refine or_congr Iff.rfl ⟨?_, ?_⟩
    · rintro ⟨q, hq, e⟩; exact ⟨q, mem_byHead.2 hq, e⟩
    · rintro ⟨q, hq, e⟩; exact ⟨q, mem_byHead.1 hq, e⟩
theorem prio_take {p : List Int} {k : Nat} {x : Int} (h0 : 0 ≤ x) (h1 : x < (k : Int)) (h2 : k ≤ p.length) : prio (p.take k) x = prio p x := by
  unfold prio
  have : ((p.take k).length : Int) = k := by simp; omega
  rw [this, if_pos h1, if_pos (by omega)]
  unfold gt
  rw [List.getD_eq_getElem?_getD, List.getD_eq_getElem?_getD, List.getElem?_take, if_pos (by omega)]
theorem prio_drop {p : List Int} {k : Nat} {x : Int} (h0 : 0 ≤ x) (h2 : k ≤ p.length) : prio (p.drop k) x = prio p (x + k) := by
  unfold prio
  have : ((p.drop k).length : Int) = p.length - k := by simp; omega
  rw [this]
  by_cases h : x < (p.length : Int) - k
  · rw [if_pos h, if_pos (by omega)]
    unfold gt
    rw [List.getD_eq_getElem?_getD, List.getD_eq_getElem?_getD, List.getElem?_drop, show k + x.toNat = (x + (k : Int)).toNat from by omega]
  · rw [if_neg h, if_neg (by omega)]
theorem Side.cycA (h : Side A B C) {p : List Int} (hp : A.length ≤ p.length) {x : Int} (hx : Tj.Ok A x) : OnCyc C p (prio p x) x ↔ OnCyc A (p.take A.length) (prio (p.take A.length) x) x := by
  rw [prio_take hx.1 hx.2 hp]
  have hm : ∀ y, Tj.Ok A y → upto p (prio p x) y = upto (p.take A.length) (prio p x) y := fun y hy => by unfold upto; rw [prio_take hy.1 hy.2 hp]
  unfold OnCyc
  constructor
  · rintro ⟨y, e, r⟩
    have e' := (h.edA hm hx).1 e
    exact ⟨y, e', (h.rchA hm e'.2.1).1 r⟩
  · rintro ⟨y, e, r⟩
    exact ⟨y, (h.edA hm hx).2 e, (h.rchA hm e.2.1).2 r⟩
theorem Side.cycB (h : Side A B C) {p : List Int} (hp : A.length ≤ p.length) {x : Int} (hx : Tj.Ok B x) : OnCyc C p (prio p (x + A.length)) (x + A.length) ↔ OnCyc B (p.drop A.length) (prio (p.drop A.length) x) x := by
  rw [prio_drop hx.1 hp]
  have hm : ∀ y, Tj.Ok B y → upto p (prio p (x + A.length)) (y + A.length) = upto (p.drop A.length) (prio p (x + A.length)) y := fun y hy => by unfold upto; rw [prio_drop hy.1 hp]
  unfold OnCyc
  constructor
  · rintro ⟨y, e, r⟩
    obtain ⟨w, rfl, e'⟩ := (h.edB hm hx).1 e
    obtain ⟨x', he, r'⟩ := (h.rchB hm e'.2.1).1 r
    have : x' = x := by omega
    subst this
    exact ⟨w, e', r'⟩
  · rintro ⟨y, e, r⟩
    exact ⟨y + A.length, (h.edB hm hx).2 ⟨y, rfl, e⟩, (h.rchB hm e.2.1).2 ⟨x, rfl, r⟩⟩
theorem Side.bad (h : Side A B C) {p : List Int} (hp : A.length ≤ p.length) {q a b c : Int}
    (ha : Mn a (fun x => Tj.Ok A x ∧ par (prio (p.take A.length) x) q ∧ OnCyc A (p.take A.length) (prio (p.take A.length) x) x))
    (hb : Mn b (fun x => Tj.Ok B x ∧ par (prio (p.drop A.length) x) q ∧ OnCyc B (p.drop A.length) (prio (p.drop A.length) x) x))
    (hc : Mn c (fun x => Tj.Ok C x ∧ par (prio p x) q ∧ OnCyc C p (prio p x) x)) : c = if a < 0 then (if 0 ≤ b then b + A.length else b) else a := by
  refine hc.uniq ?_
  refine ⟨fun n hn => hn.1.1, ?_⟩
  have inA : ∀ x, Tj.Ok A x → par (prio p x) q → OnCyc C p (prio p x) x → Tj.Ok A x ∧ par (prio (p.take A.length) x) q ∧ OnCyc A (p.take A.length) (prio (p.take A.length) x) x := fun x hx h1 h2 =>
    ⟨hx, by rw [prio_take hx.1 hx.2 hp]; exact h1, (h.cycA hp hx).1 h2⟩
  have inB : ∀ x, Tj.Ok B x → par (prio p (x + A.length)) q → OnCyc C p (prio p (x + A.length)) (x + A.length) → Tj.Ok B x ∧ par (prio (p.drop A.length) x) q ∧ OnCyc B (p.drop A.length) (prio (p.drop A.length) x) x := fun x hx h1 h2 =>
    ⟨hx, by rw [prio_drop hx.1 hp]; exact h1, (h.cycB hp hx).1 h2⟩
  by_cases h0 : a < 0
  · rw [if_pos h0]
    have noA : ∀ x, ¬ _ := fun x hx => by have := ha.nonneg.2 ⟨x, hx⟩; omega
    by_cases h1 : 0 ≤ b
    · rw [if_pos h1]
      obtain ⟨b1, b2, b3⟩ := hb.mem h1
      refine .inr ⟨⟨h.okB b1, by rw [← prio_drop b1.1 hp]; exact b2, (h.cycB hp b1).2 b3⟩, fun n hn => ?_⟩
      rcases h.ok hn.1 with hA | ⟨y, rfl, hB⟩
      · exact absurd (inA n hA hn.2.1 hn.2.2) (noA n)
      · have := inB y hB hn.2.1 hn.2.2
        rcases hb.2 with ⟨hb1, hb2⟩ | ⟨_, hb2⟩
        · exact absurd this (hb2 y)
        · have := hb2 y this; omega
    · rw [if_neg h1]
      have hbm : b = -1 := by
        rcases hb.2 with ⟨e, _⟩ | ⟨e, _⟩
        · exact e
        · have := hb.1 _ e; omega
      refine .inl ⟨hbm, fun n hn => ?_⟩
      rcases h.ok hn.1 with hA | ⟨y, rfl, hB⟩
      · exact absurd (inA n hA hn.2.1 hn.2.2) (noA n)
      · exact h1 (hb.nonneg.2 ⟨y, inB y hB hn.2.1 hn.2.2⟩)
  · rw [if_neg h0]
    obtain ⟨a1, a2, a3⟩ := ha.mem (by omega)
    refine .inr ⟨⟨h.okA a1, by rw [← prio_take a1.1 a1.2 hp]; exact a2, (h.cycA hp a1).2 a3⟩, fun n hn => ?_⟩
    rcases h.ok hn.1 with hA | ⟨y, rfl, hB⟩
    · rcases ha.2 with ⟨e, _⟩ | ⟨_, e⟩
      · omega
      · exact e n (inA n hA hn.2.1 hn.2.2)
    · have := a1.2; have := hB.1; omega
end
end Go.Bw
