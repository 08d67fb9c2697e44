/- When a system may be: what the reference's model says; both say the same. Conditions: none. -/
import Derived.Test.YtbkooifhcekpmaaGreatBwLts7
set_option linter.unusedVariables false
set_option linter.unusedSimpArgs false
set_option linter.unusedSectionVars false
namespace Go.Bw
open Go Go.RowKit

instance (a b : api_Edge) : Decidable (edgeLt a b) := by unfold edgeLt; infer_instance
theorem ahead_run (a b : api_Edge) : bailiffref03_ahead.f a.From a.Action a.To b.From b.Action b.To = some (decide (edgeLt a b)) := by
  unfold bailiffref03_ahead.f edgeLt
  by_cases h1 : a.From = b.From
  · by_cases h2 : a.Action = b.Action
    · simp [h1, h2]
    · simp [h1, h2]
  · simp [h1]
/-- The actions that are used, ticked. -/
def Ticks (m : Nat) (u : List Bool) (y : List api_Edge) : Prop := u.length = m ∧ ∀ k : Int, 0 ≤ k → k < (m : Int) → (gt u k = true ↔ ∃ e ∈ y, e.Action = k)
theorem refEdges_loop (n : Int) (x : List Bs) (y : List api_Edge) (hy : (y.length : Int) ≤ 9223372036854775807) :
    (∃ u, bailiffref03_edges.l0 n x y (List.replicate (x.length : Int).toNat false) 0 = some (.inl u) ∧ Ticks x.length u y ∧ (∀ e ∈ y, EdgeIn n x.length e) ∧ Rise edgeLt y) ∨ (bailiffref03_edges.l0 n x y (List.replicate (x.length : Int).toNat false) 0 = some (.inr false) ∧ ¬ ((∀ e ∈ y, EdgeIn n x.length e) ∧ Rise edgeLt y)) := by
  have hrep : ((List.replicate (x.length : Int).toNat (false : Bool)).length : Int) = x.length := by simp
  obtain ⟨r, hr, hq⟩ := iter_meas (body := fun t_ : List Bool × Int => bailiffref03_edges.l0b n x y t_.1 t_.2) (fun s => 0 ≤ s.2 ∧ s.2 ≤ (y.length : Int) ∧ (∀ e ∈ y.take s.2.toNat, EdgeIn n x.length e) ∧ (∀ i : Int, 1 ≤ i → i < s.2 → edgeLt (gt y (i - 1)) (gt y i)) ∧ Ticks x.length s.1 (y.take s.2.toNat))
    (fun r => (∃ u, r = .inl u ∧ Ticks x.length u y ∧ (∀ e ∈ y, EdgeIn n x.length e) ∧ Rise edgeLt y) ∨ (r = .inr false ∧ ¬ ((∀ e ∈ y, EdgeIn n x.length e) ∧ Rise edgeLt y))) (fun s => ((y.length : Int) - s.2).toNat) (fun ⟨u, i⟩ ⟨h0, h1, h2, h3, h4, h5⟩ => by
      dsimp only at h0 h1 h2 h3 h4 h5 ⊢
      unfold bailiffref03_edges.l0b
      by_cases hi : i < (y.length : Int)
      · have hm := gt_mem h0 hi
        rw [if_pos hi, if_pos ⟨h0, hi⟩]
        have bad : ¬ EdgeIn n x.length (gt y i) → ¬ ((∀ e ∈ y, EdgeIn n x.length e) ∧ Rise edgeLt y) := fun hb h => hb (h.1 _ hm)
        by_cases e1 : (gt y i).From < 0
        · left; exact ⟨.inr false, by simp [e1, jn, upL], .inr ⟨rfl, bad fun h => by have := h.1; omega⟩⟩
        by_cases e2 : n ≤ (gt y i).From
        · left; exact ⟨.inr false, by simp [e1, e2, jn, upL], .inr ⟨rfl, bad fun h => by have := h.2.1; omega⟩⟩
        by_cases e3 : (gt y i).To < 0
        · left; exact ⟨.inr false, by simp [e1, e2, e3, jn, upL], .inr ⟨rfl, bad fun h => by have := h.2.2.1; omega⟩⟩
        by_cases e4 : n ≤ (gt y i).To
        · left; exact ⟨.inr false, by simp [e1, e2, e3, e4, jn, upL], .inr ⟨rfl, bad fun h => by have := h.2.2.2.1; omega⟩⟩
        by_cases e5 : (gt y i).Action < 0
        · left; exact ⟨.inr false, by simp [e1, e2, e3, e4, e5, jn, upL], .inr ⟨rfl, bad fun h => by have := h.2.2.2.2.1; omega⟩⟩
        by_cases e6 : (x.length : Int) ≤ (gt y i).Action
        · left; exact ⟨.inr false, by simp [e1, e2, e3, e4, e5, e6, jn, upL], .inr ⟨rfl, bad fun h => by have := h.2.2.2.2.2; omega⟩⟩
        have e7 : (0 : Int) ≤ (gt y i).Action ∧ (gt y i).Action < ((List.replicate (x.length : Int).toNat (false : Bool)).length : Int) := by rw [hrep]; omega
        have hE : EdgeIn n x.length (gt y i) := ⟨by omega, by omega, by omega, by omega, by omega, by omega⟩
        have ht : y.take (i + 1).toNat = y.take i.toNat ++ [gt y i] := by
          rw [show (i + 1).toNat = i.toNat + 1 from by omega, List.take_add_one, gt_some h0 hi]; rfl
        simp only [if_neg e1, jn_inl, decide_eq_false e2, decide_eq_false e3, decide_eq_false e4, decide_eq_false e5, decide_eq_false e6, Bool.false_eq_true, if_false, if_pos e7]
        have go : (i = 0 ∨ edgeLt (gt y (i - 1)) (gt y i)) → (0 ≤ i + 1 ∧ i + 1 ≤ (y.length : Int) ∧ (∀ e ∈ y.take (i + 1).toNat, EdgeIn n x.length e) ∧ (∀ j : Int, 1 ≤ j → j < i + 1 → edgeLt (gt y (j - 1)) (gt y j)) ∧ Ticks x.length (st u (gt y i).Action true) (y.take (i + 1).toNat)) := fun ho => by
          refine ⟨by omega, by omega, fun e he => ?_, fun j j0 j1 => ?_, by rw [st_len]; exact h4, fun k k0 k1 => ?_⟩
          · rw [ht] at he
            rcases List.mem_append.1 he with he | he
            · exact h2 e he
            · simp at he; subst he; exact hE
          · by_cases hj : j = i
            · subst hj; rcases ho with ho | ho
              · omega
              · exact ho
            · exact h3 j j0 (by omega)
          · rw [gt_st e7.1 (by rw [h4]; omega) k0, ht]
            by_cases hk : k = (gt y i).Action
            · rw [if_pos hk]; simp only [true_iff]; exact ⟨gt y i, by simp, hk.symm⟩
            · rw [if_neg hk, h5 k k0 k1]
              constructor
              · rintro ⟨e, a, b⟩; exact ⟨e, by simp [a], b⟩
              · rintro ⟨e, a, b⟩
                rcases List.mem_append.1 a with a | a
                · exact ⟨e, a, b⟩
                · simp at a; subst a; exact absurd b.symm hk
        have hw : IntKind.i64.wrap (i + 1) = i + 1 := wrap64 (by omega) (by omega)
        by_cases hi0 : 0 < i
        · have hc : (0 : Int) ≤ i - 1 ∧ i - 1 < (y.length : Int) := by omega
          rw [if_pos hi0, wrap64 (x := i - 1) (by omega) (by omega), if_pos hc, ahead_run]
          simp only [Option.bind_some, jn_inl]
          by_cases hl : edgeLt (gt y (i - 1)) (gt y i)
          · right
            refine ⟨(st u (gt y i).Action true, i + 1), by simp [hl, nx, hw], go (.inr hl), by dsimp only; omega⟩
          · left
            exact ⟨.inr false, by simp [hl, upL], .inr ⟨rfl, fun h => hl (h.2 i (by omega) hi)⟩⟩
        · right
          rw [if_neg hi0, jn_inl]
          refine ⟨(st u (gt y i).Action true, i + 1), by simp [nx, hw], go (.inl (by omega)), by dsimp only; omega⟩
      · left
        rw [if_neg hi]
        rw [List.take_of_length_le (by omega)] at h2
        refine ⟨_, rfl, .inl ⟨u, rfl, ⟨h4, ?_⟩, h2, fun j j0 j1 => h3 j j0 (by omega)⟩⟩
        rw [List.take_of_length_le (by omega)] at h5
        exact h5) (List.replicate (x.length : Int).toNat false, 0) ⟨Int.le_refl _, by dsimp only; omega, by simp, fun j j0 j1 => by dsimp only at j1; omega, by simp, fun k k0 k1 => by
        dsimp only
        unfold gt
        rw [List.getD_eq_getElem?_getD, List.getElem?_replicate]
        split <;> simp⟩
  rcases hq with ⟨u, rfl, h⟩ | ⟨rfl, h⟩
  · exact .inl ⟨u, hr, h⟩
  · exact .inr ⟨hr, h⟩
theorem refEdges_iff (n : Int) (x : List Bs) (y : List api_Edge) (z : List api_Prop) (hy : (y.length : Int) ≤ 9223372036854775807) (hx : x.length ≤ 8) :
    ∃ b, bailiffref03_edges.f n x y z = some b ∧ (b = true ↔ (∀ e ∈ y, EdgeIn n x.length e) ∧ Rise edgeLt y ∧ UsedS x.length y) := by
  have hrep : ((List.replicate (x.length : Int).toNat (false : Bool)).length : Int) = x.length := by simp
  unfold bailiffref03_edges.f
  rw [if_pos (by omega)]
  rcases refEdges_loop n x y hy with ⟨u, hu, ⟨t1, t2⟩, he, hr⟩ | ⟨hu, hn⟩
  · rw [hu, jn_inl]
    rcases up_iff (body := fun t_ : Int => bailiffref03_edges.l1b x u t_) (N := x.length) (p := fun i => gt u i = true) (bad := false) (by omega) 0 (by decide) (fun i h0 h1 => by
      simp only [bailiffref03_edges.l1b]
      rw [hrep, if_pos h1, if_pos ⟨h0, h1⟩]
      by_cases hp : gt u i = true
      · left; rw [if_pos hp]; exact ⟨hp, rfl⟩
      · right; rw [if_neg hp]; exact ⟨hp, rfl⟩) (fun i h => by simp only [bailiffref03_edges.l1b]; rw [hrep, if_neg h]; rfl) with ⟨h, q⟩ | ⟨h, i, i0, i1, i2⟩
    · exact ⟨true, by rw [show bailiffref03_edges.l1 x u 0 = _ from h]; rfl, by simp only [true_iff]; exact ⟨he, hr, fun k k0 k1 => (t2 k k0 k1).1 (q k k0 k1)⟩⟩
    · exact ⟨false, by rw [show bailiffref03_edges.l1 x u 0 = _ from h]; rfl, by simp only [Bool.false_eq_true, false_iff]; exact fun hh => i2 ((t2 i i0 i1).2 (hh.2.2 i i0 i1))⟩
  · rw [hu]
    exact ⟨false, rfl, by simp only [Bool.false_eq_true, false_iff]; exact fun hh => hn ⟨hh.1, hh.2.1⟩⟩
end Go.Bw
