/- CyclesTurned's model comes to true, where there are not too many steps. Conditions: none. -/
import Derived.Test.YtmkidaijgdgcjaaBwTurn1
import Derived.Test.YtmkidaijgdgcjaaBwSame1
set_option linter.unusedVariables false
set_option linter.unusedSimpArgs false
set_option linter.unusedSectionVars false
namespace Go.Bw
open Go Go.RowKit Tj

theorem asc_gt {p : List Int} (h : p.Pairwise (· < ·)) {a b : Int} (h0 : 0 ≤ a) (h1 : a < b) (h2 : b < (p.length : Int)) : gt p a < gt p b := by
  rw [List.pairwise_iff_getElem] at h
  have ha := gt_some (xs := p) h0 (by omega)
  have hb := gt_some (xs := p) (i := b) (by omega) h2
  rw [List.getElem?_eq_getElem (by omega)] at ha hb
  rw [← Option.some.inj ha, ← Option.some.inj hb]
  exact h _ _ _ _ (by omega)
theorem asc_not_take {p : List Int} (h : p.Pairwise (· < ·)) {k : Int} (h0 : 0 ≤ k) (h1 : k < (p.length : Int)) : gt p k ∉ p.take k.toNat := fun hm => by
  obtain ⟨j, hj, he⟩ := List.getElem_of_mem hm
  simp at hj he
  have := asc_gt h (a := (j : Int)) (b := k) (by omega) (by omega) h1
  have e : gt p (j : Int) = p[j] := gt_of_get (List.getElem?_eq_getElem (by omega))
  omega
section
variable {G L : List (List Int)} {p cnt : List Int}
theorem t3_run {i : Int} (hp : gt L i = p) (hok : ∀ x ∈ p, Tj.Ok G x) (hasc : p.Pairwise (· < ·)) (hpl : (p.length : Int) ≤ 9223372036854775807) (hl : cnt.length = G.length) (h0 : ∀ y ∈ p, gt cnt y = 0) :
    ∃ cnt', bailifflaw15_CyclesTurned.l3 G L i cnt 0 = some (.inl cnt') ∧ cnt'.length = G.length ∧ ∀ y, Tj.Ok G y → gt cnt' y = if y ∈ p then 1 else gt cnt y := by
  obtain ⟨r, hr, c', rfl, h1, h2⟩ := iter_meas (body := fun t_ : (List Int) × Int => bailifflaw15_CyclesTurned.l3b G L i t_.1 t_.2)
    (fun s => 0 ≤ s.2 ∧ s.2 ≤ (p.length : Int) ∧ s.1.length = G.length ∧ ∀ y, Tj.Ok G y → gt s.1 y = if y ∈ p.take s.2.toNat then 1 else gt cnt y)
    (fun r => ∃ c', r = .inl c' ∧ c'.length = G.length ∧ ∀ y, Tj.Ok G y → gt c' y = if y ∈ p then 1 else gt cnt y) (fun s => (p.length - s.2).toNat)
    (fun ⟨c, k⟩ ⟨a0, a1, a2, a3⟩ => by
      dsimp only at a0 a1 a2 a3 ⊢
      unfold bailifflaw15_CyclesTurned.l3b
      rw [hp]
      by_cases hk : k < (p.length : Int)
      · right
        have hx := hok _ (gt_mem a0 hk)
        have hcx : gt c (gt p k) = 0 := by
          rw [a3 _ hx, if_neg (asc_not_take hasc a0 hk)]
          exact h0 _ (gt_mem a0 hk)
        rw [if_pos hk, if_pos ⟨a0, hk⟩, if_neg (show ¬ gt p k < 0 from by have := hx.1; omega), jn_inl, if_neg (by simp; have := hx.2; omega)]
        have hdn : ∀ {ρ : Type} (f : Bool × Bool → Option ρ), jn (if 0 < k then if (0 : Int) ≤ IntKind.i64.wrap (k - 1) ∧ IntKind.i64.wrap (k - 1) < (p.length : Int) then some (.inl (true, decide (gt p k ≤ gt p (IntKind.i64.wrap (k - 1))))) else none else some (.inl (false, false))) f = f (decide (0 < k), false) := fun f => by
          by_cases h : 0 < k
          · rw [if_pos h, wrap64 (x := k - 1) (by omega) (by omega), if_pos ⟨by omega, by omega⟩, jn_inl, decide_eq_false (by have := asc_gt hasc (a := k - 1) (b := k) (by omega) (by omega) hk; omega), decide_eq_true h]
          · rw [if_neg h, jn_inl, decide_eq_false h]
        rw [hdn, jn_inl, if_neg (by simp), if_pos ⟨hx.1, by simp; exact hx.2⟩, hcx, wrap64 (x := 0 + 1) (by omega) (by omega), wrap64 (x := k + 1) (by omega) (by omega)]
        refine ⟨_, rfl, ⟨by dsimp only; omega, by dsimp only; omega, (st_len _ _ _).trans a2, fun y hy => ?_⟩, by dsimp only; omega⟩
        dsimp only
        rw [gt_st hx.1 (by rw [a2]; exact hx.2) hy.1, a3 y hy, show (k + 1).toNat = k.toNat + 1 from by omega, List.take_add_one, gt_some a0 hk]
        by_cases hyk : y = gt p k
        · rw [if_pos hyk, if_pos (by simp [hyk])]; rfl
        · rw [if_neg hyk]
          simp [hyk]
      · left
        rw [if_neg hk]
        refine ⟨_, rfl, c, rfl, a2, fun y hy => ?_⟩
        rw [a3 y hy, List.take_of_length_le (by omega)]) (cnt, 0) ⟨Int.le_refl _, by dsimp only; omega, hl, fun y _ => by simp⟩
  exact ⟨c', hr, h1, h2⟩
theorem t1_run {out : List (List Int)} {may : Int → Bool} (hP : Parts G may out) (hL : byHead out = L) (hN : (G.length : Int) ≤ 1099511627776) :
    ∃ cnt', bailifflaw15_CyclesTurned.l1 G L L (List.replicate (G.length : Int).toNat (0 : Int)) 0 = some (.inl cnt') ∧ cnt'.length = G.length ∧ ∀ y, Tj.Ok G y → may y = true → gt cnt' y = 1 := by
  have hLo : ∀ p, p ∈ L ↔ p ∈ out := fun p => by rw [← hL, mem_byHead]
  have hLl : (L.length : Int) ≤ G.length := by
    have := hP.len
    have h2 : (byHead out).length = out.length := (List.mergeSort_perm _ _).length_eq
    rw [← hL]; omega
  have hheads : L.Pairwise (fun a b => gt a 0 < gt b 0) := hL ▸ hP.heads
  have hpl : ∀ p ∈ L, (p.length : Int) ≤ 9223372036854775807 := fun p hp => by
    have := rising_len (a := -1) (c := (G.length : Int) - 1) (hP.asc p ((hLo p).1 hp)) (fun x hx => by have := (hP.el p ((hLo p).1 hp) x hx).1; unfold Tj.Ok at this; omega) (by omega)
    omega
  obtain ⟨r, hr, c', rfl, h1, h2⟩ := iter_meas (body := fun t_ : (List Int) × Int => bailifflaw15_CyclesTurned.l1b G L L t_.1 t_.2)
    (fun s => 0 ≤ s.2 ∧ s.2 ≤ (L.length : Int) ∧ s.1.length = G.length ∧ (∀ y, Tj.Ok G y → (∃ p ∈ L.take s.2.toNat, y ∈ p) → gt s.1 y = 1) ∧ ∀ y, Tj.Ok G y → (¬ ∃ p ∈ L.take s.2.toNat, y ∈ p) → gt s.1 y = 0)
    (fun r => ∃ c', r = .inl c' ∧ c'.length = G.length ∧ ∀ y, Tj.Ok G y → may y = true → gt c' y = 1) (fun s => (L.length - s.2).toNat)
    (fun ⟨c, i⟩ ⟨a0, a1, a2, a3, a4⟩ => by
      dsimp only at a0 a1 a2 a3 a4 ⊢
      unfold bailifflaw15_CyclesTurned.l1b
      by_cases hi : i < (L.length : Int)
      · right
        have hm : gt L i ∈ L := gt_mem a0 hi
        have hmo := (hLo _).1 hm
        have hne : 0 < (gt L i).length := List.length_pos_iff.2 (hP.ne _ hmo)
        have hfresh : ∀ y ∈ gt L i, ¬ ∃ p ∈ L.take i.toNat, y ∈ p := fun y hy ⟨p, hp, hyp⟩ => by
          obtain ⟨j, hj, he⟩ := List.getElem_of_mem hp
          simp at hj he
          have hpo := (hLo p).1 (List.mem_of_mem_take hp)
          have hpe := parts_eq hP hpo hmo hyp hy
          have hgi := gt_some a0 hi
          rw [List.getElem?_eq_getElem (by omega)] at hgi
          have := (List.pairwise_iff_getElem.1 hheads) j i.toNat (by omega) (by omega) (by omega)
          rw [he, Option.some.inj hgi, hpe] at this
          omega
        obtain ⟨c2, b0, b1, b2⟩ := t3_run (G := G) (L := L) (p := gt L i) (cnt := c) rfl (fun x hx => (hP.el _ hmo x hx).1) (hP.asc _ hmo) (hpl _ hm) a2 (fun y hy => a4 y (hP.el _ hmo y hy).1 (hfresh y hy))
        rw [if_pos hi, if_pos ⟨a0, hi⟩, if_pos ⟨a0, hi⟩, same_run (hpl _ hm)]
        simp only [Option.bind_some]
        rw [if_pos (by simp), jn_inl, decide_eq_false (show ¬ ((gt L i).length : Int) = 0 by omega), if_neg (by simp)]
        have hdn : ∀ {ρ : Type} (f : Bool × Bool → Option ρ), jn (if 0 < i then if (0 : Int) ≤ 0 ∧ 0 < ((gt L i).length : Int) then if (0 : Int) ≤ IntKind.i64.wrap (i - 1) ∧ IntKind.i64.wrap (i - 1) < (L.length : Int) then if (0 : Int) ≤ 0 ∧ 0 < ((gt L (IntKind.i64.wrap (i - 1))).length : Int) then some (.inl (true, decide (gt (gt L i) 0 ≤ gt (gt L (IntKind.i64.wrap (i - 1))) 0))) else none else none else none else some (.inl (false, false))) f = f (decide (0 < i), false) := fun f => by
          by_cases h : 0 < i
          · have hm' : gt L (i - 1) ∈ L := gt_mem (by omega) (by omega)
            have hne' : 0 < (gt L (i - 1)).length := List.length_pos_iff.2 (hP.ne _ ((hLo _).1 hm'))
            have hlt : gt (gt L (i - 1)) 0 < gt (gt L i) 0 := by
              have e1 := gt_some (xs := L) (i := i - 1) (by omega) (by omega)
              have e2 := gt_some a0 hi
              rw [List.getElem?_eq_getElem (by omega)] at e1 e2
              rw [← Option.some.inj e1, ← Option.some.inj e2]
              exact (List.pairwise_iff_getElem.1 hheads) _ _ _ _ (by omega)
            rw [if_pos h, wrap64 (x := i - 1) (by omega) (by omega), if_pos ⟨by omega, by omega⟩, if_pos ⟨by omega, by omega⟩, if_pos ⟨by omega, by omega⟩, jn_inl, decide_eq_false (by omega), decide_eq_true h]
          · rw [if_neg h, jn_inl, decide_eq_false h]
        rw [hdn, jn_inl, if_neg (by simp), b0, jn_inl, wrap64 (x := i + 1) (by omega) (by omega)]
        have htake : ∀ p, p ∈ L.take (i + 1).toNat ↔ p ∈ L.take i.toNat ∨ p = gt L i := fun p => by
          rw [show (i + 1).toNat = i.toNat + 1 from by omega, List.take_add_one, gt_some a0 hi]
          simp
        refine ⟨_, rfl, ⟨by dsimp only; omega, by dsimp only; omega, b1, fun y hy hex => ?_, fun y hy hex => ?_⟩, by dsimp only; omega⟩
        · dsimp only
          rw [b2 y hy]
          by_cases hyi : y ∈ gt L i
          · rw [if_pos hyi]
          · rw [if_neg hyi]
            obtain ⟨p, hp, hyp⟩ := hex
            rcases (htake p).1 hp with h | rfl
            · exact a3 y hy ⟨p, h, hyp⟩
            · exact absurd hyp hyi
        · dsimp only
          rw [b2 y hy, if_neg (fun h => hex ⟨_, (htake _).2 (.inr rfl), h⟩)]
          exact a4 y hy fun ⟨p, hp, hyp⟩ => hex ⟨p, (htake p).2 (.inl hp), hyp⟩
      · left
        rw [if_neg hi]
        refine ⟨_, rfl, c, rfl, a2, fun y hy hm => ?_⟩
        obtain ⟨p, hp, hyp⟩ := hP.all y hy hm
        refine a3 y hy ⟨p, ?_, hyp⟩
        rw [List.take_of_length_le (by omega)]
        exact (hLo p).2 hp) (List.replicate (G.length : Int).toNat (0 : Int), 0) ⟨Int.le_refl _, by dsimp only; omega, by simp, fun y hy hex => by simp at hex, fun y hy _ => by
          dsimp only
          unfold gt
          rw [List.getD_eq_getElem?_getD, List.getElem?_replicate]
          split <;> rfl⟩
  exact ⟨c', hr, h1, h2⟩
theorem t2_run (hl : cnt.length = G.length) (hN : (G.length : Int) ≤ 1099511627776) (h1 : ∀ y, Tj.Ok G y → gt cnt y = 1) : bailifflaw15_CyclesTurned.l2 G cnt 0 = some (.inl ()) := by
  obtain ⟨r, hr, rfl⟩ := iter_meas (body := fun t_ : Int => bailifflaw15_CyclesTurned.l2b G cnt t_)
    (fun s => 0 ≤ s ∧ s ≤ (G.length : Int)) (fun r => r = .inl ()) (fun s => (G.length - s).toNat)
    (fun i ⟨a0, a1⟩ => by
      unfold bailifflaw15_CyclesTurned.l2b
      have hlen : (List.replicate (G.length : Int).toNat (0 : Int)).length = G.length := by simp
      rw [hlen]
      by_cases hi : i < (G.length : Int)
      · right
        rw [if_pos hi, if_pos ⟨a0, hi⟩, if_pos (h1 i ⟨a0, hi⟩), wrap64 (x := i + 1) (by omega) (by omega)]
        exact ⟨_, rfl, ⟨by omega, by omega⟩, by omega⟩
      · left
        rw [if_neg hi]
        exact ⟨_, rfl, rfl⟩) 0 ⟨Int.le_refl _, by omega⟩
  exact hr
theorem turned_some (hN : (G.length : Int) ≤ 50) (hrow : ∀ r ∈ G, (r.length : Int) ≤ 9223372036854775807) (hT : tot G ≤ 1048576) {a0 : List (List Int)} (ha : bailifflaw15_cut.f a0 = some G) : bailifflaw15_CyclesTurned.f a0 = some true := by
  have hN' : (G.length : Int) ≤ 1099511627776 := by omega
  obtain ⟨T, t0, tl, tr, tm⟩ := t0_run (G := G) hN' hT
  have hokT : ∀ z, Tj.Ok T z ↔ Tj.Ok G z := fun z => by unfold Tj.Ok; rw [tl]
  have hrowT : ∀ r ∈ T, (r.length : Int) ≤ 9223372036854775807 := fun r hr => by
    obtain ⟨j, hj, he⟩ := List.getElem_of_mem hr
    have := tr (j : Int) ⟨by omega, by omega⟩
    rw [gt_of_get (List.getElem?_eq_getElem hj), he] at this
    omega
  obtain ⟨out, hc, hP⟩ := Components_run hN' hrow
  obtain ⟨out', hc', hP'⟩ := Components_run (G := T) (by omega) hrowT
  have hsame : byHead out' = byHead out := hP'.same hP (fun x => by rw [hokT x]) (fun x y hx _ => by
    have hx := (hokT x).1 hx
    constructor
    · rintro ⟨h1, h2⟩
      obtain ⟨hy, r1⟩ := (turned_rch tl tm hx).1 h1
      exact ⟨((turned_rch tl tm hy).1 h2).2, r1⟩
    · rintro ⟨h1, h2⟩
      have hy : Tj.Ok G y := by
        have : ∀ {a b : Int}, Rch G (fun _ => true) a b → Tj.Ok G a → Tj.Ok G b := fun h => by
          induction h with
          | refl => exact id
          | step e _ ih => exact fun _ => ih e.2.1
        exact this h1 hx
      exact ⟨(turned_rch tl tm hx).2 ⟨hy, h2⟩, (turned_rch tl tm hy).2 ⟨hx, h1⟩⟩)
  obtain ⟨cnt, c0, cl, c1⟩ := t1_run (L := byHead out) hP rfl hN'
  have hr : (List.replicate (G.length : Int).toNat ([] : List Int)).length = G.length := by simp
  unfold bailifflaw15_CyclesTurned.f
  rw [shown_run, ha]
  simp only [Option.bind_some]
  rw [if_pos ⟨by omega, by omega⟩, t0, jn_inl, hc]
  simp only [Option.bind_some]
  rw [hc', hsame]
  simp only [Option.bind_some]
  rw [if_pos trivial, jn_inl, if_neg (by simp), if_pos ⟨by omega, by omega⟩, c0, jn_inl, t2_run cl hN' (fun y hy => c1 y hy rfl), jn_inl]
theorem bailifflaw15_CyclesTurned_run {a0 : List (List Int)} (hl : ∀ xs ∈ a0, xs.length ≤ maxLen) (_ : ∀ xs ∈ a0, ∀ x ∈ xs, (Lit.int .i64 x).wf = true) (hb : tot a0 + (a0.length : Int) ≤ 1048576) : bailifflaw15_CyclesTurned.f a0 = some true :=
  turned_some (by simp; omega) (take_row hl) (by have := tot_take_le a0 50; omega) (cut_run a0)
end
end Go.Bw
