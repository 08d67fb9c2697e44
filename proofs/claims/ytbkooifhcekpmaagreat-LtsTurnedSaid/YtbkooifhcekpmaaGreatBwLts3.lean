/- A state is in Back of a set just if its Next has one of the set; any is all together. Conditions: none. -/
import Derived.Test.YtbkooifhcekpmaaGreatBwTwinA
import Derived.Test.YtbkooifhcekpmaaGreatBwLts2
set_option linter.unusedVariables false
set_option linter.unusedSimpArgs false
set_option linter.unusedSectionVars false
namespace Go.Bw
open Go Go.RowKit

theorem rep_bit {v : W4} {S : Int → Prop} (h : v.Rep S) {i : Nat} (hi : i < 64) : v.a.getLsbD i = true ↔ S i := by
  have := h i (by omega) (by omega)
  unfold W4.has W4.sel at this
  rw [show ((i : Int) / 64) = 0 from by omega, show ((i : Int) % 64).toNat = i from by omega] at this
  simpa using this
theorem rep_small {v : W4} {S : Int → Prop} (h : v.Rep S) (hS : ∀ s, S s → s < 64) : v.b = 0#64 ∧ v.c = 0#64 ∧ v.d = 0#64 := by
  have key : ∀ k : Int, 1 ≤ k → k < 4 → v.sel k = 0#64 := fun k h0 h1 => by
    apply BitVec.eq_of_getLsbD_eq
    intro i hi
    have := h (64 * k + i) (by omega) (by omega)
    unfold W4.has at this
    rw [show (64 * k + (i : Int)) / 64 = k from by omega, show ((64 * k + (i : Int)) % 64).toNat = i from by omega] at this
    cases hv : (v.sel k).getLsbD i with
    | false => simp
    | true => have := hS _ (this.1 hv); omega
  have k1 := key 1 (by decide) (by decide)
  have k2 := key 2 (by decide) (by decide)
  have k3 := key 3 (by decide) (by decide)
  simp [W4.sel] at k1 k2 k3
  exact ⟨k1, k2, k3⟩
theorem wd0 : Wd 0#64 = 0 := rfl
section
variable {n : Int} {x : List Bs} {y : List api_Edge} {next : List (lts_edges × sets_Set)} {holds : List (Bs × sets_Set)} {to : BitVec 64}
/-- Which states a set is met from. -/
def Bk (n : Int) (x : List Bs) (y : List api_Edge) (to : BitVec 64) (a : Bs) (s : Int) : Prop := 0 ≤ s ∧ s < n ∧ Meets (Hit x y ⟨s, a⟩) to
theorem turn_l1 (hx : Nx x y next) (hn : 1 ≤ n) (hn2 : n ≤ 24) (he : ∀ e ∈ y, EdgeIn n x.length e) {i : Int} {v : W4} (hv : v.Rep (Bk n x y to (gt (([] ++ x) ++ [([45] : Bs)]) i))) :
    bailifflaw03_LtsTurned.l1 n x (Wd to) (some ⟨n, holds, next⟩) i v.t 0 = some (.inl ()) := by
  obtain ⟨r, hr, rfl⟩ := up_loop (body := fun t_ : Int => bailifflaw03_LtsTurned.l1b n x (Wd to) (some ⟨n, holds, next⟩) i v.t t_) (N := n) (Q := fun r => r = .inl ()) (by omega) 0 (by decide) fun s hs => by
    unfold bailifflaw03_LtsTurned.l1b
    by_cases h1 : s < n
    · right
      refine ⟨h1, ?_⟩
      obtain ⟨u, hu, hur⟩ := next_run hx n holds s (gt (([] ++ x) ++ [([45] : Bs)]) i)
      have hsm : ∀ t, Hit x y ⟨s, gt (([] ++ x) ++ [([45] : Bs)]) i⟩ t → t < n := fun t ⟨e, hee, _, h2, _⟩ => by
        have := (he e hee).2.2.2.1; omega
      obtain ⟨b1, b2, b3⟩ := rep_small hur (fun t ht => by have := hsm t ht; omega)
      have hsh : Bw.shr .u64 (Wd u.a) n = 0 := shr_none (by omega) (by omega) fun j hj => by
        cases hb : u.a.getLsbD j with
        | false => rfl
        | true =>
          have hj64 : j < 64 := BitVec.lt_of_getLsbD hb
          have := hsm _ ((rep_bit hur hj64).1 hb); omega
      have hw1 : IntKind.u64.wrap s = s := wrapu (by omega) (by omega)
      have hw2 : IntKind.u64.wrap n = n := wrapu (by omega) (by omega)
      have hbit := bit_wd v.a (s := s) hs (by omega)
      have heq : ((!(decide (band .u64 (Wd u.a) (Wd to) = 0))) == decide (band .u64 (Bw.shr .u64 (Wd v.a) s) 1 = 1)) = true := by
        rw [band_wd, beq_iff_eq, Bool.eq_iff_iff]
        simp only [Bool.not_eq_true', decide_eq_false_iff_not, decide_eq_true_eq, hbit]
        rw [wd_zero, and_meets hur to, Classical.not_not, rep_bit hv (show s.toNat < 64 by omega), show ((s.toNat : Nat) : Int) = s from by omega]
        exact ⟨fun h => ⟨hs, h1, h⟩, fun h => h.2.2⟩
      have h0n : (0 : Int) ≤ n := by omega
      simp only [Option.getD_some, if_pos h1, hu, Option.bind_some, hw1, hw2, if_pos hs, W4.t, heq, if_true, if_pos h0n, hsh, decide_true, Bool.not_true, jn_inl, Bool.false_eq_true, if_false, b1, b2, b3, wd0]
      rfl
    · left; rw [if_neg h1]; exact ⟨_, rfl, rfl⟩
  exact hr
theorem turn_l0 (hx : Nx x y next) (hn : 1 ≤ n) (hn2 : n ≤ 24) (hl : x.length ≤ 8) (he : ∀ e ∈ y, EdgeIn n x.length e) :
    ∃ p, bailifflaw03_LtsTurned.l0 n x (Wd to) (some ⟨n, holds, next⟩) 0 0 = some (.inl p) := by
  have hlen : ((([] ++ x) ++ [([45] : Bs)]).length : Int) = x.length + 1 := by simp
  obtain ⟨r, hr, p, rfl⟩ := iter_meas (body := fun t_ : (Option lts_Table) × Int × Int => bailifflaw03_LtsTurned.l0b n x (Wd to) t_.1 t_.2.1 t_.2.2)
    (fun s => s.1 = some ⟨n, holds, next⟩ ∧ 0 ≤ s.2.2 ∧ ∃ A : BitVec 64, s.2.1 = Wd A ∧ ∀ q : Nat, q < 64 → (A.getLsbD q = true ↔ ∃ j : Int, 0 ≤ j ∧ j < s.2.2 ∧ j < (x.length : Int) ∧ Bk n x y to (gt x j) q))
    (fun r => ∃ p, r = .inl p) (fun s => ((x.length : Int) + 1 - s.2.2).toNat) (fun ⟨o, acc, i⟩ ⟨h1, h2, A, h3, h4⟩ => by
      dsimp only at h1 h2 h3 h4 ⊢
      subst h1 h3
      unfold bailifflaw03_LtsTurned.l0b
      by_cases hi : i < ((([] ++ x) ++ [([45] : Bs)]).length : Int)
      · right
        obtain ⟨v, hb, hv⟩ := back_run hx (show 0 ≤ n by omega) hn2 holds to (gt (([] ++ x) ++ [([45] : Bs)]) i)
        have hl1 := turn_l1 (holds := holds) hx hn hn2 he (i := i) hv
        obtain ⟨b1, b2, b3⟩ := rep_small hv (fun t ht => by have := ht.2.1; omega)
        have hsh : Bw.shr .u64 (Wd v.a) n = 0 := shr_none (by omega) (by omega) fun j hj => by
          cases hb : v.a.getLsbD j with
          | false => rfl
          | true =>
            have hj64 : j < 64 := BitVec.lt_of_getLsbD hb
            have := ((rep_bit hv hj64).1 hb).2.1; omega
        have hw2 : IntKind.u64.wrap n = n := wrapu (by omega) (by omega)
        have h0n : (0 : Int) ≤ n := by omega
        have hwi : IntKind.i64.wrap (i + 1) = i + 1 := wrap64 (by omega) (by omega)
        have hT : (⟨n, holds, next⟩ : lts_Table) = ⟨n, holds, next⟩ := rfl
        rw [if_pos hi, if_pos ⟨h2, hi⟩]
        simp only [Option.isNone_some, if_true, Option.getD_some, hb, Option.bind_some, hl1, jn_inl]
        rw [hlen] at hi
        by_cases hx1 : i < (x.length : Int)
        · have hgi : gt (([] ++ x) ++ [([45] : Bs)]) i = gt x i := by rw [List.nil_append, gt_app_left h2 hx1]
          rw [hgi] at hv
          simp only [if_pos hx1, hw2, if_pos h0n, W4.t, hsh, if_true, b1, b2, b3, wd0, decide_true, Bool.not_true, jn_inl, Bool.false_eq_true, if_false, bor_wd, hwi]
          refine ⟨_, rfl, ⟨rfl, by dsimp only; omega, _, rfl, fun q hq => ?_⟩, by dsimp only; omega⟩
          dsimp only
          rw [BitVec.getLsbD_or, Bool.or_eq_true, h4 q hq, rep_bit hv hq]
          constructor
          · rintro (⟨j, j0, j1, j2, j3⟩ | h)
            · exact ⟨j, j0, by omega, j2, j3⟩
            · exact ⟨i, h2, by omega, hx1, h⟩
          · rintro ⟨j, j0, j1, j2, j3⟩
            by_cases hj : j = i
            · subst hj; exact .inr j3
            · exact .inl ⟨j, j0, by omega, j2, j3⟩
        · have hil : i = (x.length : Int) := by omega
          have hgi : gt (([] ++ x) ++ [([45] : Bs)]) i = [45] := by rw [hil, List.nil_append, gt_last]
          rw [hgi] at hv
          have hA : A = v.a := by
            apply BitVec.eq_of_getLsbD_eq
            intro q hq
            rw [Bool.eq_iff_iff, h4 q hq, rep_bit hv hq]
            constructor
            · rintro ⟨j, j0, j1, j2, k1, k2, t, t1, ⟨e, e1, e2, e3, e4⟩, t3⟩
              exact ⟨k1, k2, t, t1, ⟨e, e1, e2, e3, .inr rfl⟩, t3⟩
            · rintro ⟨k1, k2, t, t1, ⟨e, e1, e2, e3, e4⟩, t3⟩
              have hE := he e e1
              exact ⟨e.Action, hE.2.2.2.2.1, by rw [hil]; exact hE.2.2.2.2.2, hE.2.2.2.2.2, k1, k2, t, t1, ⟨e, e1, e2, e3, .inl rfl⟩, t3⟩
          simp only [if_neg hx1, hw2, if_pos h0n, W4.t, hsh, if_true, b1, b2, b3, wd0, decide_true, Bool.not_true, jn_inl, Bool.false_eq_true, if_false, hA, Bool.and_self, hwi]
          refine ⟨_, rfl, ⟨rfl, by dsimp only; omega, v.a, rfl, fun q hq => ?_⟩, by dsimp only; omega⟩
          dsimp only
          rw [← hA, h4 q hq]
          constructor
          · rintro ⟨j, j0, j1, j2, j3⟩; exact ⟨j, j0, by omega, j2, j3⟩
          · rintro ⟨j, j0, j1, j2, j3⟩; exact ⟨j, j0, by omega, j2, j3⟩
      · left; rw [if_neg hi]; exact ⟨_, rfl, _, rfl⟩) (some ⟨n, holds, next⟩, 0, 0) ⟨rfl, Int.le_refl _, 0#64, rfl, fun q hq => by
        dsimp only
        simp
        intro j j0 j1
        omega⟩
  exact ⟨p, hr⟩
end
theorem turned_run (n : Int) (x : List Bs) (y : List api_Edge) (z : List api_Prop) (to : BitVec 64) (hs : ∀ p ∈ z, (p.States.length : Int) ≤ 9223372036854775807) : bailifflaw03_LtsTurned.f n x y z (Wd to) = some true := by
  unfold bailifflaw03_LtsTurned.f
  rw [bailifflaw03_shown_run]
  rcases new_run n x y z hs with ⟨h1, h2⟩ | ⟨h1, hn, hn2, hl, he, holds, next, h2, hx⟩
  · simp [h1, h2, jn]
  · obtain ⟨p, hp⟩ := turn_l0 (holds := holds) (to := to) hx hn hn2 hl he
    have c1 : (([] : List Bs).length + x.length) * 16 ≤ 140737488355328 := by simp; omega
    have c2 : ((([] : List Bs) ++ x).length + ([([45] : Bs)] : List Bs).length) * 16 ≤ 140737488355328 := by simp; omega
    simp only [h2, Option.bind_some, if_true, Option.isNone_some, jn_inl, Bool.false_eq_true, if_false, if_pos c1, if_pos c2, hp]
end Go.Bw
