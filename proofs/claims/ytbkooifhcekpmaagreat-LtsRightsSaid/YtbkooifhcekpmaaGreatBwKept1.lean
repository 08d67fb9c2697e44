/- What is lent is kept: the models of lent and kept. Conditions: none. -/
import Derived.Test.YtbkooifhcekpmaaGreatBwKept
import Derived.Test.YtbkooifhcekpmaaGreatBwLts1
set_option linter.unusedVariables false
set_option linter.unusedSimpArgs false
set_option linter.unusedSectionVars false
namespace Go.Bw
open Go Go.RowKit

theorem bseq_self (x : Bs) : bseq x x = true := bseq_iff.2 rfl
theorem up_all {τ ρ : Type} {body : Int → Option (Int ⊕ (Unit ⊕ ρ))} {N : Int} (hN : N ≤ 9223372036854775807) (h1 : ∀ i, 0 ≤ i → i < N → body i = some (.inl (IntKind.i64.wrap (i + 1)))) (h2 : ∀ i, ¬ i < N → body i = some (.inr (.inl ()))) : iter body 0 = some (.inl ()) := by
  obtain ⟨r, hr, rfl⟩ := up_loop (body := body) (N := N) (Q := fun r => r = .inl ()) hN 0 (by decide) fun i hi => by
    by_cases hlt : i < N
    · exact .inr ⟨hlt, h1 i hi hlt⟩
    · exact .inl ⟨_, h2 i hlt, rfl⟩
  exact hr
theorem same_self (n : Int) (x : List Bs) (y : List api_Edge) (z : List api_Prop) (hx : (x.length : Int) ≤ 9223372036854775807) (hy : (y.length : Int) ≤ 9223372036854775807) (hz : (z.length : Int) ≤ 9223372036854775807) (hs : ∀ p ∈ z, (p.States.length : Int) ≤ 9223372036854775807) :
    bailiffref03_Same.f n x y z n x y z = some true := by
  have e0 : bailiffref03_Same.l0 x x 0 = some (.inl ()) := up_all (τ := Unit) (N := x.length) hx (fun i h0 h1 => by simp only [bailiffref03_Same.l0b]; rw [if_pos h1, if_pos ⟨h0, h1⟩, if_pos ⟨h0, h1⟩, bseq_self]; rfl) (fun i h => by simp only [bailiffref03_Same.l0b]; rw [if_neg h]; rfl)
  have e1 : bailiffref03_Same.l1 y y 0 = some (.inl ()) := up_all (τ := Unit) (N := y.length) hy (fun i h0 h1 => by simp only [bailiffref03_Same.l1b]; rw [if_pos h1, if_pos ⟨h0, h1⟩, if_pos ⟨h0, h1⟩]; simp [nx]) (fun i h => by simp only [bailiffref03_Same.l1b]; rw [if_neg h]; rfl)
  have e2 : bailiffref03_Same.l2 z z 0 = some (.inl ()) := up_all (τ := Unit) (N := z.length) hz (fun i h0 h1 => by
    have e3 : bailiffref03_Same.l3 z z i 0 = some (.inl ()) := up_all (τ := Unit) (N := (gt z i).States.length) (hs _ (gt_mem h0 h1)) (fun j j0 j1 => by simp only [bailiffref03_Same.l3b]; rw [if_pos j1, if_pos ⟨j0, j1⟩, if_pos ⟨j0, j1⟩, if_pos trivial]; rfl) (fun j h => by simp only [bailiffref03_Same.l3b]; rw [if_neg h]; rfl)
    simp only [bailiffref03_Same.l2b]
    rw [if_pos h1, if_pos ⟨h0, h1⟩, if_pos ⟨h0, h1⟩, bseq_self, e3]
    simp [jn, nx]) (fun i h => by simp only [bailiffref03_Same.l2b]; rw [if_neg h]; rfl)
  unfold bailiffref03_Same.f
  simp [e0, e1, e2, jn]
/-- What lent makes of the propositions. -/
def lentP (p : api_Prop) : api_Prop_S := ⟨p.Name, p.States, [-7]⟩
theorem lentP_pl (z : List api_Prop) : (z.map lentP).map api_Prop_S.pl = z := by
  rw [List.map_map]
  exact List.map_id _
structure Fits (xs : List Bs) (ys : List api_Edge) (zs : List api_Prop) : Prop where
  x : (xs.length + 1) * 16 ≤ 140737488355328
  y : (ys.length + 1) * 24 ≤ 140737488355328
  z : zs.length * 40 ≤ 140737488355328
  s : ∀ p ∈ zs, (p.States.length + 1) * 8 ≤ 140737488355328
theorem lent_run {n : Int} {x : List Bs} {y : List api_Edge} {z : List api_Prop} (h : Fits x y z) : bailifflaw03_lent.f n x y z = some (z.map lentP, n) := by
  have hl : bailifflaw03_lent.l0 z [] 0 = some (.inl (z.map lentP)) := by
    obtain ⟨r, hr, rfl⟩ := iter_meas (body := fun t_ : List api_Prop_S × Int => bailifflaw03_lent.l0b z t_.1 t_.2) (fun s => 0 ≤ s.2 ∧ s.2 ≤ (z.length : Int) ∧ s.1 = (z.take s.2.toNat).map lentP) (fun r => r = .inl (z.map lentP)) (fun s => ((z.length : Int) - s.2).toNat)
      (fun ⟨P, i⟩ ⟨h0, h1, h2⟩ => by
        dsimp only at h0 h1 h2 ⊢
        subst h2
        unfold bailifflaw03_lent.l0b
        by_cases hi : i < (z.length : Int)
        · right
          have hp := h.s _ (gt_mem h0 hi)
          have hz := h.z
          have hlen : ((z.take i.toNat).map lentP).length + 1 ≤ z.length := by simp; omega
          rw [if_pos hi, if_pos ⟨h0, hi⟩, if_pos (by simp; omega), if_pos (by simp; omega), if_pos (by simp; omega), if_pos (by omega), wrap64 (x := i + 1) (by omega) (by omega)]
          refine ⟨_, rfl, ⟨by dsimp only; omega, by dsimp only; omega, ?_⟩, by dsimp only; omega⟩
          dsimp only
          rw [show (i + 1).toNat = i.toNat + 1 from by omega, List.take_add_one, gt_some h0 hi]
          simp [lentP]
        · left
          rw [if_neg hi]
          refine ⟨_, rfl, ?_⟩
          rw [List.take_of_length_le (by omega)]) ([], 0) ⟨Int.le_refl _, by dsimp only; omega, by simp⟩
    exact hr
  have hx := h.x
  have hy := h.y
  unfold bailifflaw03_lent.f
  rw [if_pos (by simp; omega), if_pos (by simp; omega), if_pos (by simp; omega), if_pos (by simp; omega), if_pos (by simp; omega), if_pos (by simp; omega), hl]
  rfl
theorem kept_run {n : Int} {x : List Bs} {y : List api_Edge} {z : List api_Prop} (h : Fits x y z) :
    ∃ a b c, bailifflaw03_kept.f n (([] ++ x) ++ [[33]]) (x.length : Int).toNat (([] ++ y) ++ [⟨-7, 0, 0⟩]) (y.length : Int).toNat (z.map lentP) n x y z = some (a, b, c, true) := by
  have hx := h.x
  have hy := h.y
  have hz := h.z
  have hs := h.s
  have tx : (([] ++ x) ++ [([33] : Bs)]).take (x.length : Int).toNat = x := by simp
  have ty : (([] ++ y) ++ [(⟨-7, 0, 0⟩ : api_Edge)]).take (y.length : Int).toNat = y := by simp
  have wx : IntKind.i64.wrap ((x.length : Int) + 1) = x.length + 1 := wrap64 (by omega) (by omega)
  have wy : IntKind.i64.wrap ((y.length : Int) + 1) = y.length + 1 := wrap64 (by omega) (by omega)
  have lx : ((([] ++ x) ++ [([33] : Bs)]).length : Int) = x.length + 1 := by simp
  have ly : ((([] ++ y) ++ [(⟨-7, 0, 0⟩ : api_Edge)]).length : Int) = y.length + 1 := by simp
  have fx : (([] ++ x) ++ [([33] : Bs)]).take ((x.length : Int) + 1).toNat = ([] ++ x) ++ [([33] : Bs)] := List.take_of_length_le (by simp)
  have fy : (([] ++ y) ++ [(⟨-7, 0, 0⟩ : api_Edge)]).take ((y.length : Int) + 1).toNat = ([] ++ y) ++ [(⟨-7, 0, 0⟩ : api_Edge)] := List.take_of_length_le (by simp)
  have gx : gt (([] ++ x) ++ [([33] : Bs)]) (x.length : Int) = [33] := by rw [List.nil_append, gt_last]
  have gy : gt (([] ++ y) ++ [(⟨-7, 0, 0⟩ : api_Edge)]) (y.length : Int) = ⟨-7, 0, 0⟩ := by rw [List.nil_append, gt_last]
  have e1 : ∃ a, bailifflaw03_kept.l1 (([] ++ x) ++ [[33]]) x (([] ++ x) ++ [[33]]) 0 = some (.inl a) := by
    obtain ⟨r, hr, a, rfl⟩ := iter_meas (body := fun t_ : List Bs × Int => bailifflaw03_kept.l1b (([] ++ x) ++ [[33]]) x t_.1 t_.2) (fun s => 0 ≤ s.2) (fun r => ∃ a, r = .inl a) (fun s => ((x.length : Int) + 1 - s.2).toNat) (fun ⟨a, i⟩ h0 => by
      dsimp only at h0 ⊢
      unfold bailifflaw03_kept.l1b
      rw [wx, fx, lx]
      by_cases hi : i < (x.length : Int) + 1
      · right
        rw [if_pos hi, if_pos ⟨h0, hi⟩, if_pos ⟨h0, hi⟩, wrap64 (x := i + 1) (by omega) (by omega)]
        exact ⟨_, rfl, by dsimp only; omega, by dsimp only; omega⟩
      · left; rw [if_neg hi]; exact ⟨_, rfl, _, rfl⟩) (([] ++ x) ++ [[33]], 0) (Int.le_refl _)
    exact ⟨a, hr⟩
  have e2 : ∃ a, bailifflaw03_kept.l2 (([] ++ y) ++ [⟨-7, 0, 0⟩]) y (([] ++ y) ++ [⟨-7, 0, 0⟩]) 0 = some (.inl a) := by
    obtain ⟨r, hr, a, rfl⟩ := iter_meas (body := fun t_ : List api_Edge × Int => bailifflaw03_kept.l2b (([] ++ y) ++ [⟨-7, 0, 0⟩]) y t_.1 t_.2) (fun s => 0 ≤ s.2) (fun r => ∃ a, r = .inl a) (fun s => ((y.length : Int) + 1 - s.2).toNat) (fun ⟨a, i⟩ h0 => by
      dsimp only at h0 ⊢
      unfold bailifflaw03_kept.l2b
      rw [wy, fy, ly]
      by_cases hi : i < (y.length : Int) + 1
      · right
        rw [if_pos hi, if_pos ⟨h0, hi⟩, if_pos ⟨h0, hi⟩, wrap64 (x := i + 1) (by omega) (by omega)]
        exact ⟨_, rfl, by dsimp only; omega, by dsimp only; omega⟩
      · left; rw [if_neg hi]; exact ⟨_, rfl, _, rfl⟩) (([] ++ y) ++ [⟨-7, 0, 0⟩], 0) (Int.le_refl _)
    exact ⟨a, hr⟩
  have e0 : ∃ a, bailifflaw03_kept.l0 (([] ++ x) ++ [[33]]) (([] ++ y) ++ [⟨-7, 0, 0⟩]) (z.map lentP) z (z.map lentP) 0 = some (.inl a) := by
    obtain ⟨r, hr, a, rfl⟩ := iter_meas (body := fun t_ : List api_Prop_S × Int => bailifflaw03_kept.l0b (([] ++ x) ++ [[33]]) (([] ++ y) ++ [⟨-7, 0, 0⟩]) (z.map lentP) z t_.1 t_.2)
      (fun s => 0 ≤ s.2 ∧ s.1.length = z.length ∧ ∀ j : Int, s.2 ≤ j → j < (z.length : Int) → gt s.1 j = lentP (gt z j)) (fun r => ∃ a, r = .inl a) (fun s => ((z.length : Int) - s.2).toNat) (fun ⟨P, i⟩ ⟨h0, h1, h2⟩ => by
      dsimp only at h0 h1 h2 ⊢
      unfold bailifflaw03_kept.l0b
      by_cases hi : i < (z.length : Int)
      · right
        have hp := hs _ (gt_mem h0 hi)
        have hg := h2 i (Int.le_refl _) hi
        generalize hS : (gt z i).States = S at hp
        have h1' : (gt P i).States.1 = S := by rw [hg]; exact hS
        have h2' : (gt P i).States.2 = [-7] := by rw [hg]; rfl
        have wS : IntKind.i64.wrap ((S.length : Int) + 1) = S.length + 1 := wrap64 (by omega) (by omega)
        have tS : (S ++ [(-7 : Int)]).take ((S.length : Int) + 1).toNat = S ++ [-7] := List.take_of_length_le (by simp)
        have lS : ((S ++ [(-7 : Int)]).length : Int) = S.length + 1 := by simp
        have w1 : IntKind.i64.wrap ((S.length : Int) + 1 - 1) = S.length := by rw [wrap64 (by omega) (by omega)]; omega
        have gS : gt (S ++ [(-7 : Int)]) (S.length : Int) = -7 := gt_last
        have e3 : ∃ a : List Int, bailifflaw03_kept.l3 z P i (S ++ [-7]) 0 = some (.inl a) ∧ a.length = S.length + 1 := by
          obtain ⟨r, hr, a, rfl, ha⟩ := iter_meas (body := fun t_ : List Int × Int => bailifflaw03_kept.l3b z P i t_.1 t_.2) (fun s => 0 ≤ s.2 ∧ s.1.length = S.length + 1) (fun r => ∃ a : List Int, r = .inl a ∧ a.length = S.length + 1) (fun s => ((S.length : Int) + 1 - s.2).toNat) (fun ⟨a, j⟩ ⟨j0, j1⟩ => by
            dsimp only at j0 j1 ⊢
            unfold bailifflaw03_kept.l3b
            rw [h1', h2', hS, wS, tS, lS]
            by_cases hj : j < (S.length : Int) + 1
            · right
              rw [if_pos hj, if_pos ⟨j0, hj⟩, if_pos ⟨j0, hj⟩, wrap64 (x := j + 1) (by omega) (by omega)]
              exact ⟨_, rfl, ⟨by dsimp only; omega, by dsimp only; rw [st_len]; exact j1⟩, by dsimp only; omega⟩
            · left; rw [if_neg hj]; exact ⟨_, rfl, _, rfl, j1⟩) (S ++ [-7], 0) ⟨Int.le_refl _, by simp⟩
          exact ⟨a, hr, ha⟩
        obtain ⟨a, ha, hal⟩ := e3
        have c1 : (0 : Int) ≤ (S.length : Int) + 1 ∧ (S.length : Int) + 1 ≤ (S.length : Int) + 1 := by omega
        have c2 : (0 : Int) ≤ (S.length : Int) ∧ (S.length : Int) < (S.length : Int) + 1 := by omega
        have c3 : (a.take S.length).length = ((S ++ [(-7 : Int)]).take S.length).length := by simp [hal]
        have hlP : ((z.map lentP).length : Int) = z.length := by simp
        rw [if_pos hi, hlP, if_pos ⟨h0, hi⟩, if_pos ⟨h0, hi⟩]
        simp only [h1', h2', hS, wS, tS, lS, w1, gS, if_pos c1, if_pos c2, if_true, ha, jn_inl, if_pos c3, wrap64 (x := i + 1) (by omega) (by omega)]
        refine ⟨_, rfl, ⟨by dsimp only; omega, by dsimp only; rw [st_len]; exact h1, fun j j0 j1 => ?_⟩, by dsimp only; omega⟩
        dsimp only at j0 ⊢
        rw [gt_st h0 (by omega) (by omega), if_neg (by omega)]
        exact h2 j (by omega) j1
      · left; rw [if_neg hi]; exact ⟨_, rfl, _, rfl⟩) (z.map lentP, 0) ⟨Int.le_refl _, by simp, fun j j0 j1 => by
        dsimp only at j0 ⊢
        unfold gt
        rw [List.getD_eq_getElem?_getD, List.getD_eq_getElem?_getD, List.getElem?_map, List.getElem?_eq_getElem (by omega)]
        rfl⟩
    exact ⟨a, hr⟩
  obtain ⟨a0, e0⟩ := e0
  obtain ⟨a1, e1⟩ := e1
  obtain ⟨a2, e2⟩ := e2
  refine ⟨a1, a2, a0, ?_⟩
  have c1 : (0 : Int) ≤ (x.length : Int) + 1 ∧ (x.length : Int) + 1 ≤ (x.length : Int) + 1 := by omega
  have c2 : (0 : Int) ≤ (y.length : Int) + 1 ∧ (y.length : Int) + 1 ≤ (y.length : Int) + 1 := by omega
  have c3 : (0 : Int) ≤ (x.length : Int) ∧ (x.length : Int) < (x.length : Int) + 1 := by omega
  have c4 : (0 : Int) ≤ (y.length : Int) ∧ (y.length : Int) < (y.length : Int) + 1 := by omega
  unfold bailifflaw03_kept.f
  rw [tx, ty, lentP_pl, same_self n x y z (by omega) (by omega) (by omega) (fun p hp => by have := hs p hp; omega)]
  simp only [Option.bind_some, wx, wy, lx, ly, fx, fy, if_pos c1, if_pos c2, if_pos c3, if_pos c4, if_true, gx, gy, bseq_self, decide_true, Bool.not_true, jn_inl, Bool.false_eq_true, if_false, e0, e1, e2]
end Go.Bw
