/- The case that every law of the cycles asks for, as its model tells it. Conditions: none. -/
import Derived.Test.YtmkidaijgdgcjaaBwCycl
set_option linter.unusedVariables false
set_option linter.unusedSimpArgs false
set_option linter.unusedSectionVars false
namespace Go.Bw
open Go Go.RowKit Tj

theorem asc_ext {p q : List Int} (hp : p.Pairwise (· < ·)) (hq : q.Pairwise (· < ·)) (hm : ∀ z, z ∈ p ↔ z ∈ q) : p = q := by
  have n1 : p.Nodup := hp.imp fun {a b} h e => by omega
  have n2 : q.Nodup := hq.imp fun {a b} h e => by omega
  exact List.Perm.eq_of_pairwise (le := (· < ·)) (fun a b _ _ h h' => by omega) hp hq ((List.perm_ext_iff_of_nodup n1 n2).2 hm)
/-- Parts that rise by their heads, and are the parts that there are, are what comes out. -/
theorem Parts.byHead_eq {G : List (List Int)} {may : Int → Bool} {out L : List (List Int)} (hP : Parts G may out) (hL : L.Pairwise (fun a b => gt a 0 < gt b 0)) (hm : ∀ p, p ∈ out ↔ p ∈ L) : byHead out = L := by
  have n1 : out.Nodup := hP.dis.imp_of_mem fun {p q} hp hq h e => by
    obtain ⟨x, hx⟩ := List.exists_mem_of_ne_nil p (hP.ne p hp)
    exact h x hx (e ▸ hx)
  have n2 : L.Nodup := hL.imp fun {a b} h e => by rw [e] at h; omega
  have hperm : (byHead out).Perm L := (List.mergeSort_perm _ _).trans ((List.perm_ext_iff_of_nodup n1 n2).2 hm)
  refine List.Perm.eq_of_pairwise (le := fun a b => decide (gt a 0 ≤ gt b 0) = true) ?_ ?_ ?_ hperm
  · intro a b ha hb h1 h2
    have ha' : a ∈ L := hperm.mem_iff.1 ha
    simp at h1 h2
    obtain ⟨i, hi, rfl⟩ := List.getElem_of_mem ha'
    obtain ⟨j, hj, rfl⟩ := List.getElem_of_mem hb
    rw [List.pairwise_iff_getElem] at hL
    rcases Nat.lt_trichotomy i j with h | h | h
    · have := hL i j hi hj h; omega
    · subst h; rfl
    · have := hL j i hj hi h; omega
  · exact List.pairwise_mergeSort (fun a b c h1 h2 => by simp at *; omega) (fun a b => by simp; omega) _
  · exact hL.imp fun {a b} h => by simp; omega

abbrev Gs : List (List Int) := [([1] : List Int), ([0, 2] : List Int), ([2] : List Int), ([0] : List Int)]
abbrev Ps : List Int := [1, 2, 3, 7]
theorem ed_s {may : Int → Bool} {u v : Int} (h : Ed Gs may u v) : (u ≤ 0 ∧ v = 1) ∨ (u = 1 ∧ (v = 0 ∨ v = 2)) ∨ (u = 2 ∧ v = 2) ∨ (u = 3 ∧ v = 0) := by
  obtain ⟨h, _⟩ := h
  unfold gt at h
  by_cases h0 : u ≤ 0
  · rw [show u.toNat = 0 from by omega] at h
    simp at h
    exact .inl ⟨h0, h⟩
  · by_cases h1 : u = 1
    · subst h1; simp at h; exact .inr (.inl ⟨rfl, h⟩)
    · by_cases h2 : u = 2
      · subst h2; simp at h; exact .inr (.inr (.inl ⟨rfl, h⟩))
      · by_cases h3 : u = 3
        · subst h3; simp at h; exact .inr (.inr (.inr ⟨rfl, h⟩))
        · obtain ⟨k, hk⟩ : ∃ k, u.toNat = k + 4 := ⟨u.toNat - 4, by omega⟩
          rw [hk] at h
          simp [List.getD_eq_getElem?_getD] at h
          cases h
def rk (u : Int) : Int := if u = 3 then 2 else if u = 2 then 0 else 1
theorem rk_ed {may : Int → Bool} {u v : Int} (h : Ed Gs may u v) : rk v ≤ rk u := by
  unfold rk
  rcases ed_s h with ⟨h, rfl⟩ | ⟨rfl, rfl | rfl⟩ | ⟨rfl, rfl⟩ | ⟨rfl, rfl⟩ <;> simp <;> (try split) <;> (try split) <;> omega
theorem rk_rch {may : Int → Bool} {u v : Int} (h : Rch Gs may u v) : rk v ≤ rk u := by
  induction h with
  | refl => exact Int.le_refl _
  | step e _ ih => have := rk_ed e; omega
theorem ok_s {x : Int} : Tj.Ok Gs x ↔ x = 0 ∨ x = 1 ∨ x = 2 ∨ x = 3 := by
  unfold Tj.Ok
  simp
  omega
theorem ok_rch {may : Int → Bool} {u v : Int} (h : Rch Gs may u v) (hu : Tj.Ok Gs u) : Tj.Ok Gs v := by
  induction h with
  | refl => exact hu
  | step e _ ih => exact ih e.2.1
theorem ed_mk {may : Int → Bool} {u v : Int} (h : v ∈ gt Gs u) (hv : Tj.Ok Gs v) (hm : may v = true) : Ed Gs may u v := ⟨h, hv, hm⟩
theorem r01 {may : Int → Bool} (h : may 1 = true) : Ed Gs may 0 1 := ed_mk (by unfold gt; simp) (ok_s.2 (by simp)) h
theorem r10 {may : Int → Bool} (h : may 0 = true) : Ed Gs may 1 0 := ed_mk (by unfold gt; simp) (ok_s.2 (by simp)) h
theorem r22 {may : Int → Bool} (h : may 2 = true) : Ed Gs may 2 2 := ed_mk (by unfold gt; simp) (ok_s.2 (by simp)) h
theorem mut_s {x y : Int} (hx : Tj.Ok Gs x) : (Rch Gs (fun _ => true) x y ∧ Rch Gs (fun _ => true) y x) ↔ Tj.Ok Gs y ∧ rk x = rk y := by
  constructor
  · rintro ⟨h1, h2⟩
    have := rk_rch h1
    have := rk_rch h2
    exact ⟨ok_rch h1 hx, by omega⟩
  · rintro ⟨hy, h⟩
    rw [ok_s] at hx hy
    rcases hx with rfl | rfl | rfl | rfl <;> rcases hy with rfl | rfl | rfl | rfl <;> simp [rk] at h <;>
      first
      | exact ⟨.refl _, .refl _⟩
      | exact ⟨.one (r01 rfl), .one (r10 rfl)⟩
      | exact ⟨.one (r10 rfl), .one (r01 rfl)⟩
theorem comp_s {out : List (List Int)} (hP : Parts Gs (fun _ => true) out) : byHead out = [[0, 1], [2], [3]] := by
  refine hP.byHead_eq (by simp [gt]) fun p => ?_
  have hmem : ∀ p ∈ out, ∀ x ∈ p, ∀ y, y ∈ p ↔ Tj.Ok Gs y ∧ rk x = rk y := fun p hp x hx y => by
    rw [hP.cls p hp x hx y, mut_s (hP.el p hp x hx).1]
  have hone : ∀ p ∈ out, ∀ x ∈ p, p = if rk x = 1 then [0, 1] else if rk x = 0 then [2] else [3] := fun p hp x hx => by
    have hok := (hP.el p hp x hx).1
    have hm := hmem p hp x hx
    refine asc_ext (hP.asc p hp) ?_ fun y => ?_
    · split
      · simp
      · split <;> simp
    · rw [hm, ok_s]
      rw [ok_s] at hok
      have e0 : rk 0 = 1 := rfl
      have e1 : rk 1 = 1 := rfl
      have e2 : rk 2 = 0 := rfl
      have e3 : rk 3 = 2 := rfl
      rcases hok with rfl | rfl | rfl | rfl
      · rw [e0, if_pos rfl]
        simp only [List.mem_cons, List.not_mem_nil, or_false]
        constructor
        · rintro ⟨rfl | rfl | rfl | rfl, h⟩
          · exact .inl rfl
          · exact .inr rfl
          · rw [e2] at h; omega
          · rw [e3] at h; omega
        · rintro (rfl | rfl)
          · exact ⟨.inl rfl, rfl⟩
          · exact ⟨.inr (.inl rfl), rfl⟩
      · rw [e1, if_pos rfl]
        simp only [List.mem_cons, List.not_mem_nil, or_false]
        constructor
        · rintro ⟨rfl | rfl | rfl | rfl, h⟩
          · exact .inl rfl
          · exact .inr rfl
          · rw [e2] at h; omega
          · rw [e3] at h; omega
        · rintro (rfl | rfl)
          · exact ⟨.inl rfl, rfl⟩
          · exact ⟨.inr (.inl rfl), rfl⟩
      · rw [e2, if_neg (by decide), if_pos rfl]
        simp only [List.mem_cons, List.not_mem_nil, or_false]
        constructor
        · rintro ⟨rfl | rfl | rfl | rfl, h⟩
          · rw [e0] at h; omega
          · rw [e1] at h; omega
          · rfl
          · rw [e3] at h; omega
        · rintro rfl
          exact ⟨.inr (.inr (.inl rfl)), rfl⟩
      · rw [e3, if_neg (by decide), if_neg (by decide)]
        simp only [List.mem_cons, List.not_mem_nil, or_false]
        constructor
        · rintro ⟨rfl | rfl | rfl | rfl, h⟩
          · rw [e0] at h; omega
          · rw [e1] at h; omega
          · rw [e2] at h; omega
          · rfl
        · rintro rfl
          exact ⟨.inr (.inr (.inr rfl)), rfl⟩
  constructor
  · intro hp
    obtain ⟨x, hx⟩ := List.exists_mem_of_ne_nil p (hP.ne p hp)
    rw [hone p hp x hx]
    split
    · simp
    · split <;> simp
  · intro hp
    simp at hp
    have hget : ∀ x, Tj.Ok Gs x → (if rk x = 1 then [0, 1] else if rk x = 0 then [2] else [3]) ∈ out := fun x hx => by
      obtain ⟨p, hp, hxp⟩ := hP.all x hx rfl
      rw [← hone p hp x hxp]
      exact hp
    rcases hp with rfl | rfl | rfl
    · have := hget 0 (ok_s.2 (by simp)); simpa [rk] using this
    · have := hget 2 (ok_s.2 (by simp)); simpa [rk] using this
    · have := hget 3 (ok_s.2 (by simp)); simpa [rk] using this
theorem prio_s0 : prio Ps 0 = 1 := by simp [prio, gt]
theorem prio_s1 : prio Ps 1 = 2 := by simp [prio, gt]
theorem prio_s2 : prio Ps 2 = 3 := by simp [prio, gt]
theorem prio_s3 : prio Ps 3 = 7 := by simp [prio, gt]
theorem par_e {x q : Int} : par x q ↔ band .i64 x 1 = band .i64 q 1 := Iff.rfl
theorem bad_s0 {f : Int} (h : Mn f (fun x => Tj.Ok Gs x ∧ par (prio Ps x) 0 ∧ OnCyc Gs Ps (prio Ps x) x)) : f = 1 := by
  refine h.uniq ⟨fun n hn => hn.1.1, .inr ⟨⟨ok_s.2 (by simp), by rw [prio_s1]; unfold par; decide, ?_⟩, fun n hn => ?_⟩⟩
  · rw [prio_s1]
    exact ⟨0, r10 (by simp [upto, prio_s0]), .one (r01 (by simp [upto, prio_s1]))⟩
  · obtain ⟨h1, h2, _⟩ := hn
    rw [ok_s] at h1
    rcases h1 with rfl | rfl | rfl | rfl
    · rw [prio_s0] at h2; exact absurd h2 (by unfold par; decide)
    · omega
    · omega
    · omega
theorem bad_s1 {f : Int} (h : Mn f (fun x => Tj.Ok Gs x ∧ par (prio Ps x) 1 ∧ OnCyc Gs Ps (prio Ps x) x)) : f = 2 := by
  refine h.uniq ⟨fun n hn => hn.1.1, .inr ⟨⟨ok_s.2 (by simp), by rw [prio_s2]; unfold par; decide, ?_⟩, fun n hn => ?_⟩⟩
  · rw [prio_s2]
    exact ⟨2, r22 (by simp [upto, prio_s2]), .refl _⟩
  · obtain ⟨h1, h2, h3⟩ := hn
    rw [ok_s] at h1
    rcases h1 with rfl | rfl | rfl | rfl
    · obtain ⟨y, e, _⟩ := h3
      rcases ed_s e with ⟨_, rfl⟩ | ⟨h, _⟩ | ⟨h, _⟩ | ⟨h, _⟩
      · have := e.2.2
        simp [upto, prio_s1, prio_s0] at this
      · omega
      · omega
      · omega
    · rw [prio_s1] at h2; exact absurd h2 (by unfold par; decide)
    · omega
    · omega
theorem Components_run {G : List (List Int)} (hN : (G.length : Int) ≤ 1099511627776) (hrow : ∀ r ∈ G, (r.length : Int) ≤ 9223372036854775807) : ∃ out, cycles_Components.f G = some (byHead out) ∧ Parts G (fun _ => true) out := by
  obtain ⟨out, h1, h2⟩ := parts_run (may := fun _ => true) hN hrow (fun m _ => rfl)
  refine ⟨out, ?_, h2⟩
  unfold cycles_Components.f
  rw [h1]
  rfl
theorem shown_run : bailifflaw15_shown.f = some true := by
  have hrow : ∀ r ∈ Gs, (r.length : Int) ≤ 9223372036854775807 := fun r hr => by
    simp at hr
    rcases hr with rfl | rfl | rfl | rfl <;> simp
  obtain ⟨out, h1, h2⟩ := Components_run (G := Gs) (by simp) hrow
  obtain ⟨e, h3, h4⟩ := bad_run (G := Gs) (pr := Ps) (q := 0) (by simp) hrow
  obtain ⟨o, h5, h6⟩ := bad_run (G := Gs) (pr := Ps) (q := 1) (by simp) hrow
  rw [comp_s h2] at h1
  rw [bad_s0 h4] at h3
  rw [bad_s1 h6] at h5
  unfold bailifflaw15_shown.f
  rw [h1]
  simp only [Option.bind_some]
  rw [if_pos (by simp), if_pos (by simp), jn_inl, if_pos (by simp [gt]), if_pos (by simp), if_pos (by simp [gt]), jn_inl, if_pos (by simp [gt]), h3]
  simp only [Option.bind_some]
  rw [jn_inl, if_pos (by simp), h5]
  simp only [Option.bind_some]
  rw [jn_inl]
  rfl
theorem take_row {a0 : List (List Int)} (hl : ∀ xs ∈ a0, xs.length ≤ maxLen) : ∀ r ∈ a0.take 50, (r.length : Int) ≤ 9223372036854775807 := fun r hr => by
  have := hl r (List.mem_of_mem_take hr)
  unfold maxLen at this
  omega
end Go.Bw
