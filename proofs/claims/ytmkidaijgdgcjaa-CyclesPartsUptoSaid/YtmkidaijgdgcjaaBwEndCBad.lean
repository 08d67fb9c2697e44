/- CyclesBad's model comes to true, where there are not too many steps. Conditions: none. -/
import Derived.Test.YtmkidaijgdgcjaaBwRef15
import Derived.Test.YtmkidaijgdgcjaaBwShown
import Derived.Test.YtmkidaijgdgcjaaBwTurn1
import Derived.Test.YtmkidaijgdgcjaaBwSame1
import Derived.Test.YtmkidaijgdgcjaaBwCBad
set_option linter.unusedVariables false
set_option linter.unusedSimpArgs false
set_option linter.unusedSectionVars false
namespace Go.Bw
open Go Go.RowKit Tj

/-- The rows as they are lent: each with one cell to spare. -/
def lentOf (G : List (List Int)) : List (List Int × List Int) := G.map fun r => (r, [0])
theorem gt_lentOf {G : List (List Int)} {i : Int} (h0 : 0 ≤ i) (h1 : i < (G.length : Int)) : gt (lentOf G) i = (gt G i, [0]) := by
  have h := gt_some h0 h1
  unfold lentOf
  unfold gt at h ⊢
  rw [List.getD_eq_getElem?_getD, List.getElem?_map, h]
  rfl
theorem lentOf_fst (G : List (List Int)) : (lentOf G).map (·.1) = G := by
  unfold lentOf
  rw [List.map_map]
  exact List.map_id G
section
variable {G : List (List Int)}
theorem lent15_run (hN : (G.length : Int) ≤ 50) (hrow : ∀ r ∈ G, (r.length : Int) ≤ 1048576) : bailifflaw15_lent.f G = some (lentOf G) := by
  obtain ⟨r, hr, rfl⟩ := iter_meas (body := fun t_ : (List (List Int × List Int)) × Int => bailifflaw15_lent.l0b G t_.1 t_.2)
    (fun s => 0 ≤ s.2 ∧ s.2 ≤ (G.length : Int) ∧ s.1 = lentOf (G.take s.2.toNat))
    (fun r => r = .inl (lentOf G)) (fun s => (G.length - s.2).toNat)
    (fun ⟨o, i⟩ ⟨a0, a1, a2⟩ => by
      dsimp only at a0 a1 a2 ⊢
      unfold bailifflaw15_lent.l0b
      by_cases hi : i < (G.length : Int)
      · right
        have hlen := hrow _ (gt_mem a0 hi)
        have hol : (o.length : Int) ≤ 50 := by rw [a2]; unfold lentOf; rw [List.length_map, List.length_take]; omega
        have h1 : ((([] : List Int) ++ gt G i) ++ ([0] : List Int)).take ((gt G i).length : Int).toNat = gt G i := by simp
        have h2 : ((([] : List Int) ++ gt G i) ++ ([0] : List Int)).drop ((gt G i).length : Int).toNat = [0] := by simp
        rw [if_pos hi, if_pos ⟨a0, hi⟩, if_pos (by simp; omega), if_pos (by simp; omega), if_pos (by simp; omega), if_pos (by omega), h1, h2, wrap64 (x := i + 1) (by omega) (by omega)]
        refine ⟨_, rfl, ⟨by dsimp only; omega, by dsimp only; omega, ?_⟩, by dsimp only; omega⟩
        dsimp only
        rw [a2, show (i + 1).toNat = i.toNat + 1 from by omega, List.take_add_one, gt_some a0 hi]
        simp [lentOf]
      · left
        rw [if_neg hi]
        refine ⟨_, rfl, ?_⟩
        rw [a2, List.take_of_length_le (by omega)]) ([], 0) ⟨Int.le_refl _, by dsimp only; omega, by simp [lentOf]⟩
  have hl : bailifflaw15_lent.l0 G ([] : List (List Int × List Int)) 0 = some (.inl (lentOf G)) := hr
  unfold bailifflaw15_lent.f
  rw [hl, jn_inl]
theorem kept15_run (hN : (G.length : Int) ≤ 50) (hrow : ∀ r ∈ G, (r.length : Int) ≤ 1048576) : bailifflaw15_kept.f (lentOf G) G = some true := by
  have hll : (lentOf G).length = G.length := by simp [lentOf]
  obtain ⟨r, hr, rfl⟩ := iter_meas (body := fun t_ : Int => bailifflaw15_kept.l0b (lentOf G) G t_)
    (fun i => 0 ≤ i ∧ i ≤ (G.length : Int)) (fun r => r = .inl ()) (fun i => (G.length - i).toNat)
    (fun i ⟨a0, a1⟩ => by
      unfold bailifflaw15_kept.l0b
      by_cases hi : i < (G.length : Int)
      · right
        have hlen := hrow _ (gt_mem a0 hi)
        have hw : IntKind.i64.wrap (((gt G i).length : Int) + 1) = ((gt G i).length : Int) + 1 := wrap64 (by omega) (by omega)
        have ht : (gt G i ++ ([0] : List Int)).take (((gt G i).length : Int) + 1).toNat = gt G i ++ [0] := List.take_of_length_le (by simp)
        rw [if_pos hi, if_pos ⟨a0, by rw [hll]; exact hi⟩, if_pos ⟨a0, hi⟩, gt_lentOf a0 hi]
        dsimp only
        rw [same_run (by omega), hw]
        simp only [Option.bind_some]
        rw [if_pos (by simp; omega), if_pos (by simp), ht, if_pos (by simp; omega), gt_last, jn_inl, if_neg (by simp), wrap64 (x := i + 1) (by omega) (by omega)]
        exact ⟨_, rfl, ⟨by omega, by omega⟩, by omega⟩
      · left
        rw [if_neg hi]
        exact ⟨_, rfl, rfl⟩) 0 ⟨Int.le_refl _, by omega⟩
  have hl : bailifflaw15_kept.l0 (lentOf G) G 0 = some (.inl ()) := hr
  unfold bailifflaw15_kept.f
  rw [hl, jn_inl]
theorem cbad_some {pr : List Int} {q : Int} (hN : (G.length : Int) ≤ 50) (hrow : ∀ r ∈ G, (r.length : Int) ≤ 1048576) (hp : (pr.length : Int) ≤ 1048576) {a0 : List (List Int)} (h : bailifflaw15_cut.f a0 = some G) :
    bailifflaw15_CyclesBad.f a0 pr q = some true := by
  have hN' : (G.length : Int) ≤ 1099511627776 := by omega
  have hrow' : ∀ r ∈ G, (r.length : Int) ≤ 9223372036854775807 := fun r hr => by have := hrow r hr; omega
  obtain ⟨a, ha, ma⟩ := bad_run (G := G) (pr := pr) (q := IntKind.i64.wrap (q + 0)) hN' hrow'
  obtain ⟨b, hb, mb⟩ := bad15_run (G := G) (pr := pr) (q := IntKind.i64.wrap (q + 0)) hN' hrow'
  obtain ⟨c, hc, mc⟩ := bad_run (G := G) (pr := pr) (q := IntKind.i64.wrap (q + 1)) hN' hrow'
  obtain ⟨d, hd, md⟩ := bad15_run (G := G) (pr := pr) (q := IntKind.i64.wrap (q + 1)) hN' hrow'
  have ht : ((([] : List Int) ++ pr) ++ ([77] : List Int)).take (pr.length : Int).toNat = pr := by simp
  have h77 : gt ((([] : List Int) ++ pr) ++ ([77] : List Int)) (pr.length : Int) = 77 := by rw [List.nil_append, gt_last]
  unfold bailifflaw15_CyclesBad.f
  rw [shown_run, h]
  simp only [Option.bind_some]
  rw [lent15_run hN hrow]
  simp only [Option.bind_some]
  rw [if_pos (by simp; omega), if_pos (by simp; omega), if_pos (by simp; omega), ht, lentOf_fst, ha, hb]
  simp only [Option.bind_some]
  rw [if_pos (ma.uniq mb), hc, hd]
  simp only [Option.bind_some]
  rw [if_pos (mc.uniq md), same_run (by omega), kept15_run hN hrow]
  simp only [Option.bind_some]
  rw [if_pos trivial, jn_inl, if_pos (by simp), jn_inl, if_pos rfl, if_pos (by simp; omega), h77, jn_inl]
  rfl
end
theorem len_tot15 : ∀ {G : List (List Int)} {r : List Int}, r ∈ G → (r.length : Int) ≤ tot G
  | [], r, h => by cases h
  | a :: G, r, h => by
    rw [tot_cons]
    rcases List.mem_cons.1 h with rfl | h
    · have := tot_nonneg G; omega
    · have := len_tot15 h; omega
theorem bailifflaw15_CyclesBad_run {a0 : List (List Int)} {a1 : List Int} {a2 : Int} (_ : ∀ xs ∈ a0, xs.length ≤ maxLen) (_ : ∀ xs ∈ a0, ∀ x ∈ xs, (Lit.int .i64 x).wf = true) (hb0 : tot a0 + (a0.length : Int) ≤ 1048576)
    (_ : ∀ x ∈ a1, (Lit.int .i64 x).wf = true) (hb1 : (a1.length : Int) ≤ 1048576) (_ : (Lit.int .i64 a2).wf = true) :
    bailifflaw15_CyclesBad.f a0 a1 a2 = some true :=
  cbad_some (by simp; omega) (fun r hr => by have := len_tot15 (List.mem_of_mem_take hr); omega) hb1 (cut_run a0)
end Go.Bw
