/- CyclesEither's model comes to true, whatever comes in. Conditions: none. -/
import Derived.Test.YtmkidaijgdgcjaaBwShown
set_option linter.unusedVariables false
set_option linter.unusedSimpArgs false
set_option linter.unusedSectionVars false
namespace Go.Bw
open Go Go.RowKit Tj

theorem either_some {G : List (List Int)} {pr : List Int} (hN : (G.length : Int) ≤ 50) (hrow : ∀ r ∈ G, (r.length : Int) ≤ 9223372036854775807) {a0 : List (List Int)} (ha : bailifflaw15_cut.f a0 = some G) :
    bailifflaw15_CyclesEither.f a0 pr = some true := by
  have hN' : (G.length : Int) ≤ 1099511627776 := by omega
  obtain ⟨out, hc, hP⟩ := Components_run hN' hrow
  obtain ⟨ev, he, me⟩ := bad_run (G := G) (pr := pr) (q := 0) hN' hrow
  obtain ⟨od, ho, mo⟩ := bad_run (G := G) (pr := pr) (q := 1) hN' hrow
  obtain ⟨fl, hf, mf⟩ := bad_run (G := G) (pr := []) (q := 0) hN' hrow
  obtain ⟨nn, hn, mn⟩ := bad_run (G := G) (pr := []) (q := 1) hN' hrow
  have hrl : (List.replicate (G.length : Int).toNat false).length = G.length := by simp
  obtain ⟨on, h0, hol, hon⟩ := e0_run (G := G) (out := out) (on := List.replicate (G.length : Int).toNat false) hP hrl hN' hrow
  obtain ⟨fi, h1, m1⟩ := e1_run (G := G) (on := on) hol hN'
  have hflag : ∀ x, Tj.Ok G x → (gt on x = true ↔ Cyc G (fun _ => true) x) := fun x hx => by
    obtain ⟨p, hp, hxp⟩ := hP.all x hx rfl
    rw [hon p hp x hxp, flag_iff hP hp hxp]
  have hbad : ∀ {pr : List Int} {lv x : Int}, OnCyc G pr lv x → Cyc G (fun _ => true) x := fun h => Cyc.mono (fun _ _ => rfl) h
  have hno : nn = -1 := mn.uniq ⟨fun n h => h.1.1, .inl ⟨rfl, fun n h => par01 (by have := h.2.1; rwa [prio_nil] at this)⟩⟩
  have hfi : fl = fi := mf.uniq (m1.same fun x => by
    constructor
    · rintro ⟨a, _, c⟩; exact ⟨a, (hflag x a).2 (hbad c)⟩
    · rintro ⟨a, c⟩
      refine ⟨a, by rw [prio_nil]; exact par00, ?_⟩
      refine Cyc.mono (fun y _ => ?_) ((hflag x a).1 c)
      unfold upto
      rw [prio_nil, prio_nil]
      rfl)
  have hin : ∀ {q f : Int}, Mn f (fun x => Tj.Ok G x ∧ par (prio pr x) q ∧ OnCyc G pr (prio pr x) x) → 0 ≤ f → Tj.Ok G f ∧ gt on f = true := fun m h => by
    obtain ⟨a, _, c⟩ := m.mem h
    exact ⟨a, (hflag _ a).2 (hbad c)⟩
  have hor : (0 ≤ ev ∨ 0 ≤ od) ↔ 0 ≤ fi := by
    rw [me.nonneg, mo.nonneg, m1.nonneg]
    constructor
    · rintro (⟨x, a, _, c⟩ | ⟨x, a, _, c⟩) <;> exact ⟨x, a, (hflag x a).2 (hbad c)⟩
    · rintro ⟨x, a, c⟩
      obtain ⟨t, ht, hc⟩ := cyc_top (pr := pr) ((hflag x a).1 c)
      rcases par_or (prio pr t) with h | h
      · exact .inl ⟨t, ht, h, hc⟩
      · exact .inr ⟨t, ht, h, hc⟩
  unfold bailifflaw15_CyclesEither.f
  rw [shown_run, ha]
  simp only [Option.bind_some]
  rw [hc]
  simp only [Option.bind_some]
  rw [if_pos ⟨by omega, by omega⟩, h0, jn_inl, hrl, wrap64 (x := (G.length : Int) - 1) (by omega) (by omega), h1, jn_inl, he, ho, hf, hn]
  simp only [Option.bind_some]
  subst hno hfi
  by_cases e0 : 0 ≤ ev
  · obtain ⟨ok, fe⟩ := hin me e0
    have hfi0 : 0 ≤ fl := hor.1 (.inl e0)
    rw [if_pos e0, if_neg (by have := ok.2; omega), if_pos ⟨ok.1, ok.2⟩, fe, jn_inl, jn_inl, if_neg (by simp)]
    by_cases o0 : 0 ≤ od
    · obtain ⟨ok', fo⟩ := hin mo o0
      rw [if_pos o0, if_neg (by have := ok'.2; omega), if_pos ⟨ok'.1, ok'.2⟩, fo]
      simp [jn_inl, e0, hfi0]
    · rw [if_neg o0]
      simp [jn_inl, e0, hfi0]
  · rw [if_neg e0, jn_inl, if_neg (by simp)]
    by_cases o0 : 0 ≤ od
    · obtain ⟨ok', fo⟩ := hin mo o0
      have hfi0 : 0 ≤ fl := hor.1 (.inr o0)
      rw [if_pos o0, if_neg (by have := ok'.2; omega), if_pos ⟨ok'.1, ok'.2⟩, fo]
      simp [jn_inl, e0, o0, hfi0]
    · have hfi0 : ¬ 0 ≤ fl := fun h => (hor.2 h).elim e0 o0
      rw [if_neg o0]
      simp [jn_inl, e0, o0, hfi0]
theorem take_row {a0 : List (List Int)} (hl : ∀ xs ∈ a0, xs.length ≤ maxLen) : ∀ r ∈ a0.take 50, (r.length : Int) ≤ 9223372036854775807 := fun r hr => by
  have := hl r (List.mem_of_mem_take hr)
  unfold maxLen at this
  omega
theorem bailifflaw15_CyclesEither_run {a0 : List (List Int)} {a1 : List Int} (hl : ∀ xs ∈ a0, xs.length ≤ maxLen) (_ : ∀ xs ∈ a0, ∀ x ∈ xs, (Lit.int .i64 x).wf = true) (_ : ∀ x ∈ a1, (Lit.int .i64 x).wf = true) : bailifflaw15_CyclesEither.f a0 a1 = some true :=
  either_some (by simp; omega) (take_row hl) (cut_run a0)
end Go.Bw
