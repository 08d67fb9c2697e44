/- CyclesLess's model comes to true, whatever comes in. Conditions: none. -/
import Derived.Test.YtmkidaijgdgcjaaBwEnd
import Derived.Test.YtmkidaijgdgcjaaBwLess
set_option linter.unusedVariables false
set_option linter.unusedSimpArgs false
set_option linter.unusedSectionVars false
namespace Go.Bw
open Go Go.RowKit Tj

theorem Rch.sub {G G' : List (List Int)} {may : Int → Bool} (hs : ∀ u v, Ed G' may u v → Ed G may u v) {x y : Int} (h : Rch G' may x y) : Rch G may x y := by
  induction h with
  | refl => exact .refl _
  | step e _ ih => exact .step (hs _ _ e) ih
theorem less_ed {G : List (List Int)} {may : Int → Bool} {k : Int} (h0 : 0 ≤ k) (h1 : k < (G.length : Int)) {u v : Int} (h : Ed (st G k []) may u v) : Ed G may u v := by
  obtain ⟨a, b, c⟩ := h
  have hl : (st G k ([] : List Int)).length = G.length := st_len _ _ _
  refine ⟨?_, ⟨b.1, by have := b.2; rw [hl] at this; exact this⟩, c⟩
  by_cases hu : u.toNat = k.toNat
  · have : gt (st G k ([] : List Int)) u = [] := by
      unfold gt st
      rw [List.getD_eq_getElem?_getD, hu, List.getElem?_set, if_pos rfl]
      split <;> rfl
    rw [this] at a
    cases a
  · have : gt (st G k ([] : List Int)) u = gt G u := by
      unfold gt st
      rw [List.getD_eq_getElem?_getD, List.getD_eq_getElem?_getD, List.getElem?_set, if_neg (fun e => hu e.symm)]
    rwa [this] at a
theorem less_mn {G G' : List (List Int)} {pr : List Int} {q a b : Int} (hl : G'.length = G.length) (hs : ∀ may u v, Ed G' may u v → Ed G may u v)
    (ha : Mn a (fun x => Tj.Ok G x ∧ par (prio pr x) q ∧ OnCyc G pr (prio pr x) x)) (hb : Mn b (fun x => Tj.Ok G' x ∧ par (prio pr x) q ∧ OnCyc G' pr (prio pr x) x)) :
    (a < 0 → b < 0) ∧ (b < 0 ∨ a ≤ b) := by
  have hin : 0 ≤ b → Tj.Ok G b ∧ par (prio pr b) q ∧ OnCyc G pr (prio pr b) b := fun h => by
    obtain ⟨h1, h2, y, e, r⟩ := hb.mem h
    exact ⟨⟨h1.1, by have := h1.2; rw [hl] at this; exact this⟩, h2, y, hs _ _ _ e, Rch.sub (hs _) r⟩
  constructor
  · intro h
    by_cases h0 : 0 ≤ b
    · have := ha.nonneg.2 ⟨b, hin h0⟩; omega
    · omega
  · by_cases h0 : 0 ≤ b
    · right
      rcases ha.2 with ⟨rfl, h⟩ | ⟨_, h⟩
      · omega
      · exact h b (hin h0)
    · left; omega
theorem less_some {G : List (List Int)} {pr : List Int} {q k : Int} (hN : (G.length : Int) ≤ 50) (hrow : ∀ r ∈ G, (r.length : Int) ≤ 9223372036854775807) {a0 : List (List Int)} (h : bailifflaw15_cut.f a0 = some G) :
    bailifflaw15_CyclesLess.f a0 pr q k = some true := by
  have hN' : (G.length : Int) ≤ 1099511627776 := by omega
  obtain ⟨a, ha, ma⟩ := bad_run (G := G) (pr := pr) (q := q) hN' hrow
  unfold bailifflaw15_CyclesLess.f
  rw [shown_run, h]
  simp only [Option.bind_some]
  rw [ha]
  simp only [Option.bind_some, List.nil_append]
  rw [if_pos (by simp; omega)]
  by_cases hk : 0 ≤ k ∧ k < (G.length : Int)
  · obtain ⟨b, hb, mb⟩ := bad_run (G := st G k []) (pr := pr) (q := q) (by rw [st_len]; omega) (fun r hr => by
      unfold st at hr
      rcases List.mem_or_eq_of_mem_set hr with h | h
      · exact hrow r h
      · rw [h]; simp)
    obtain ⟨h1, h2⟩ := less_mn (st_len G k []) (fun may u v e => less_ed hk.1 hk.2 e) ma mb
    rw [if_pos hk.1, jn_inl, if_pos (by simp; exact hk.2), if_pos hk, hb]
    simp only [Option.bind_some]
    by_cases hneg : a < 0
    · rw [if_pos hneg]; simp [jn_inl, h1 hneg]
    · rw [if_neg hneg]
      by_cases hb0 : b < 0
      · simp [jn_inl, hb0]
      · have : a ≤ b := h2.resolve_left hb0
        simp [jn_inl, hb0, this]
  · have hfl : (if 0 ≤ k then some (.inl (decide (k < (G.length : Int)))) else some (.inl false) : Option (Bool ⊕ Bool)) = some (.inl false) := by
      by_cases h0 : 0 ≤ k
      · rw [if_pos h0, decide_eq_false (fun h => hk ⟨h0, h⟩)]
      · rw [if_neg h0]
    rw [hfl, jn_inl, if_neg (by simp), ha]
    simp only [Option.bind_some]
    by_cases hneg : a < 0
    · simp [jn_inl, hneg]
    · simp [jn_inl, hneg]
theorem bailifflaw15_CyclesLess_run {a0 : List (List Int)} {a1 : List Int} {a2 a3 : Int} (hl : ∀ xs ∈ a0, xs.length ≤ maxLen) (_ : ∀ xs ∈ a0, ∀ x ∈ xs, (Lit.int .i64 x).wf = true) (_ : ∀ x ∈ a1, (Lit.int .i64 x).wf = true) (_ : (Lit.int .i64 a2).wf = true) (_ : (Lit.int .i64 a3).wf = true) :
    bailifflaw15_CyclesLess.f a0 a1 a2 a3 = some true :=
  less_some (by simp; omega) (take_row hl) (cut_run a0)
end Go.Bw
