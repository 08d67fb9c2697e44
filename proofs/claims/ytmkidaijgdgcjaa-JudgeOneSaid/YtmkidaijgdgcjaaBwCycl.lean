/- Cycles of a graph: what the parts tell of them; each is topped. Conditions: none. -/
import Derived.Test.YtmkidaijgdgcjaaBwBad
set_option linter.unusedVariables false
set_option linter.unusedSimpArgs false
set_option linter.unusedSectionVars false
namespace Go.Bw
open Go Go.RowKit Tj

section
variable {G out : List (List Int)} {on : List Bool}
/-- The flag of a node of a part. -/
def Flag (G : List (List Int)) (p : List Int) (x : Int) : Bool := decide (1 < p.length) || decide (x ∈ gt G x)
theorem parts_eq {may : Int → Bool} (hP : Parts G may out) {p q : List Int} (hp : p ∈ out) (hq : q ∈ out) {y : Int} (h1 : y ∈ p) (h2 : y ∈ q) : p = q := by
  have hm : ∀ z, z ∈ p ↔ z ∈ q := fun z => by rw [hP.cls p hp y h1 z, hP.cls q hq y h2 z]
  have n1 : p.Nodup := (hP.asc p hp).imp fun {a b} h e => by omega
  have n2 : q.Nodup := (hP.asc q hq).imp fun {a b} h e => by omega
  exact List.Perm.eq_of_pairwise (le := (· < ·)) (fun a b _ _ h h' => by omega) (hP.asc p hp) (hP.asc q hq) ((List.perm_ext_iff_of_nodup n1 n2).2 hm)
theorem Mn.uniq {f g : Int} {S : Int → Prop} (h : Mn f S) (h' : Mn g S) : f = g := by
  rcases h.2 with ⟨rfl, h1⟩ | ⟨h1, h2⟩ <;> rcases h'.2 with ⟨rfl, h3⟩ | ⟨h3, h4⟩
  · rfl
  · exact absurd h3 (h1 _)
  · exact absurd h1 (h3 _)
  · have := h2 _ h3; have := h4 _ h1; omega
theorem Mn.nonneg {f : Int} {S : Int → Prop} (h : Mn f S) : 0 ≤ f ↔ ∃ x, S x := by
  rcases h.2 with ⟨rfl, h1⟩ | ⟨h1, h2⟩
  · exact ⟨fun h => by omega, fun ⟨x, hx⟩ => absurd hx (h1 x)⟩
  · exact ⟨fun _ => ⟨_, h1⟩, fun _ => h.1 _ h1⟩
theorem Mn.mem {f : Int} {S : Int → Prop} (h : Mn f S) (h0 : 0 ≤ f) : S f := by
  rcases h.2 with ⟨rfl, _⟩ | ⟨h1, _⟩
  · omega
  · exact h1
/-- On a cycle of the graph of the nodes that may be. -/
def Cyc (G : List (List Int)) (may : Int → Bool) (x : Int) : Prop := ∃ y, Ed G may x y ∧ Rch G may y x
theorem Rch.mono {may may' : Int → Bool} (h : ∀ x, may x = true → may' x = true) {x y : Int} (r : Rch G may x y) : Rch G may' x y := by
  induction r with
  | refl => exact .refl _
  | step e _ ih => exact .step ⟨e.1, e.2.1, h _ e.2.2⟩ ih
theorem Cyc.mono {may may' : Int → Bool} (h : ∀ x, may x = true → may' x = true) {x : Int} (r : Cyc G may x) : Cyc G may' x := by
  obtain ⟨y, e, r⟩ := r
  exact ⟨y, ⟨e.1, e.2.1, h _ e.2.2⟩, Go.Bw.Rch.mono h r⟩
theorem flag_iff {may : Int → Bool} (hP : Parts G may out) {p : List Int} (hp : p ∈ out) {x : Int} (hx : x ∈ p) : Flag G p x = true ↔ Cyc G may x := by
  unfold Flag
  rw [Bool.or_eq_true, decide_eq_true_iff, decide_eq_true_iff]
  constructor
  · rintro (h | h)
    · have hnd : p.Nodup := (hP.asc p hp).imp fun {a b} h e => by omega
      obtain ⟨y, hy, hyx⟩ : ∃ y ∈ p, y ≠ x := by
        match p, h, hnd with
        | a :: b :: l, _, hnd =>
          by_cases hax : a = x
          · refine ⟨b, by simp, fun e => ?_⟩
            rw [List.nodup_cons] at hnd
            exact hnd.1 (by rw [hax, ← e]; simp)
          · exact ⟨a, by simp, hax⟩
      obtain ⟨h1, h2⟩ := (hP.cls p hp x hx y).1 hy
      obtain ⟨z, e, r⟩ := rch_first h1 (fun e => hyx e.symm)
      exact ⟨z, e, r.trans h2⟩
    · exact ⟨x, ⟨h, hP.el p hp x hx⟩, .refl x⟩
  · rintro ⟨y, e, r⟩
    by_cases hyx : y = x
    · right; have := e.1; rwa [hyx] at this
    · left
      have hy : y ∈ p := (hP.cls p hp x hx y).2 ⟨.one e, r⟩
      match p, hx, hy with
      | [a], hx, hy => simp at hx hy; exact absurd (hy.trans hx.symm) hyx
      | a :: b :: l, _, _ => simp
/-- A walk, with the nodes that it comes to. -/
inductive Wk (G : List (List Int)) (may : Int → Bool) : List Int → Int → Int → Prop
  | nil (x : Int) : Wk G may [] x x
  | cons {l : List Int} {x y z : Int} : Ed G may x y → Wk G may l y z → Wk G may (y :: l) x z
theorem Wk.of {may : Int → Bool} {x z : Int} (h : Rch G may x z) : ∃ l, Wk G may l x z := by
  induction h with
  | refl => exact ⟨[], .nil _⟩
  | step e _ ih => obtain ⟨l, hl⟩ := ih; exact ⟨_, .cons e hl⟩
theorem Wk.rch {may may' : Int → Bool} {l : List Int} {x z : Int} (h : Wk G may l x z) (hm : ∀ v ∈ l, may' v = true) : Rch G may' x z := by
  induction h with
  | nil => exact .refl _
  | cons e _ ih => exact .step ⟨e.1, e.2.1, hm _ (by simp)⟩ (ih fun v hv => hm v (by simp [hv]))
theorem Wk.cut {may : Int → Bool} {l : List Int} {x z t : Int} (h : Wk G may l x z) (ht : t ∈ l) : ∃ l1 l2, Wk G may l1 x t ∧ Wk G may l2 t z ∧ l1 ≠ [] ∧ (∀ v ∈ l1, v ∈ l) ∧ ∀ v ∈ l2, v ∈ l := by
  induction h with
  | nil => cases ht
  | @cons l x y z e w ih =>
    rcases List.mem_cons.1 ht with rfl | ht
    · exact ⟨[t], l, .cons e (.nil _), w, by simp, fun v hv => by simp at hv; simp [hv], fun v hv => by simp [hv]⟩
    · obtain ⟨l1, l2, a, b, _, c, d⟩ := ih ht
      exact ⟨y :: l1, l2, .cons e a, b, by simp, fun v hv => by rcases List.mem_cons.1 hv with rfl | hv; exact .head _; exact .tail _ (c v hv), fun v hv => .tail _ (d v hv)⟩
theorem exists_max {f : Int → Int} : ∀ {l : List Int}, l ≠ [] → ∃ t ∈ l, ∀ v ∈ l, f v ≤ f t
  | [a], _ => ⟨a, by simp, fun v hv => by simp at hv; rw [hv]; exact Int.le_refl _⟩
  | a :: b :: l, _ => by
    obtain ⟨t, ht, hm⟩ := exists_max (f := f) (l := b :: l) (by simp)
    by_cases h : f a ≤ f t
    · exact ⟨t, .tail _ ht, fun v hv => by rcases List.mem_cons.1 hv with rfl | hv; exact h; exact hm v hv⟩
    · exact ⟨a, .head _, fun v hv => by rcases List.mem_cons.1 hv with rfl | hv; exact Int.le_refl _; have := hm v hv; omega⟩
/-- Each cycle has a node that tops it. -/
theorem cyc_top {may : Int → Bool} {pr : List Int} {x : Int} (h : Cyc G may x) : ∃ t, Tj.Ok G t ∧ OnCyc G pr (prio pr t) t := by
  obtain ⟨y, e, r⟩ := h
  obtain ⟨l, hl⟩ := Wk.of r
  have hw : Wk G may (y :: l) x x := .cons e hl
  obtain ⟨t, ht, hm⟩ := exists_max (f := prio pr) (l := y :: l) (by simp)
  obtain ⟨l1, l2, a, b, hne, c, d⟩ := hw.cut ht
  have hup : ∀ v ∈ y :: l, upto pr (prio pr t) v = true := fun v hv => decide_eq_true (hm v hv)
  have r1 : Rch G (upto pr (prio pr t)) x t := a.rch fun v hv => hup v (c v hv)
  have r2 : Rch G (upto pr (prio pr t)) t x := b.rch fun v hv => hup v (d v hv)
  have hx1 : ∃ z, Ed G (upto pr (prio pr t)) x z ∧ Rch G (upto pr (prio pr t)) z t := by
    cases a with
    | nil => exact absurd rfl hne
    | cons e' w => exact ⟨_, ⟨e'.1, e'.2.1, hup _ (c _ (by simp))⟩, w.rch fun v hv => hup v (c v (by simp [hv]))⟩
  obtain ⟨z, ez, rz⟩ := hx1
  have htok : Tj.Ok G t := by
    have : ∀ {l : List Int} {x z : Int}, Wk G may l x z → ∀ v ∈ l, Tj.Ok G v := by
      intro l x z w
      induction w with
      | nil => intro v hv; cases hv
      | cons e _ ih => intro v hv; rcases List.mem_cons.1 hv with rfl | hv; exact e.2.1; exact ih v hv
    exact this hw t ht
  refine ⟨t, htok, ?_⟩
  by_cases htx : t = x
  · subst htx; exact ⟨z, ez, rz⟩
  · obtain ⟨u, eu, ru⟩ := rch_first r2 htx
    exact ⟨u, eu, ru.trans r1⟩
theorem cut_run (a : List (List Int)) : bailifflaw15_cut.f a = some (a.take 50) := by
  unfold bailifflaw15_cut.f
  by_cases h : (50 : Int) < (a.length : Int)
  · rw [if_pos h, if_pos ⟨by omega, by omega⟩]; rfl
  · rw [if_neg h, List.take_of_length_le (by omega)]
theorem prio_nil (n : Int) : prio [] n = 0 := by
  unfold prio
  by_cases h : n < (([] : List Int).length : Int)
  · rw [if_pos h]
    unfold gt
    simp
  · rw [if_neg h]
theorem par00 : par 0 0 := rfl
theorem par01 : ¬ par 0 1 := by unfold par; decide
theorem par_or (x : Int) : par x 0 ∨ par x 1 := by
  have h : ∀ y : Int, band .i64 y 1 = IntKind.i64.wrap (((BitVec.ofInt 64 y).toNat % 2 : Nat) : Int) := fun y => by
    show IntKind.i64.wrap ((BitVec.ofInt 64 y &&& BitVec.ofInt 64 1).toNat : Int) = _
    rw [BitVec.toNat_and, show (BitVec.ofInt 64 1).toNat = 1 from rfl, Nat.and_one_is_mod]
  unfold par
  rw [h x, h 0, h 1]
  rcases Nat.mod_two_eq_zero_or_one (BitVec.ofInt 64 x).toNat with e | e
  · left; rw [e]; rfl
  · right; rw [e]; rfl
end
end Go.Bw
