/- CyclesTwo's model comes to true, where there are not too many steps. Conditions: none. -/
import Derived.Test.YtmkidaijgdgcjaaBwTwo1
import Derived.Test.YtmkidaijgdgcjaaBwSame1
import Derived.Test.YtmkidaijgdgcjaaBwTwo
set_option linter.unusedVariables false
set_option linter.unusedSimpArgs false
set_option linter.unusedSectionVars false
namespace Go.Bw
open Go Go.RowKit Tj

theorem range_jn {ρ : Type} {v N : Int} (f : Bool → Option ρ) : jn (if 0 ≤ v then some (.inl (decide (v < N))) else some (.inl false)) f = f (decide (0 ≤ v ∧ v < N)) := by
  by_cases h0 : 0 ≤ v
  · rw [if_pos h0, jn_inl]
    congr 1
    exact decide_eq_decide.2 ⟨fun h => ⟨h0, h⟩, fun h => h.2⟩
  · rw [if_neg h0, jn_inl, decide_eq_false (fun h => h0 h.1)]
section
variable {A B : List (List Int)}
theorem w6_run {i : Int} (hi : Tj.Ok A i) (hl : ((gt A i).length : Int) ≤ 1048576) :
    ∃ r, bailifflaw15_CyclesTwo.l6 A i [] 0 = some (.inl r) ∧ (r.length : Int) ≤ 1048576 ∧ ∀ v, v ∈ r ↔ v ∈ gt A i ∧ Tj.Ok A v := by
  obtain ⟨r, hr, q, rfl, h1, h2⟩ := iter_meas (body := fun t_ : (List Int) × Int => bailifflaw15_CyclesTwo.l6b A i t_.1 t_.2)
    (fun s => 0 ≤ s.2 ∧ s.2 ≤ ((gt A i).length : Int) ∧ (s.1.length : Int) ≤ s.2 ∧ ∀ v, v ∈ s.1 ↔ v ∈ (gt A i).take s.2.toNat ∧ Tj.Ok A v)
    (fun r => ∃ q, r = .inl q ∧ (q.length : Int) ≤ 1048576 ∧ ∀ v, v ∈ q ↔ v ∈ gt A i ∧ Tj.Ok A v) (fun s => ((gt A i).length - s.2).toNat)
    (fun ⟨q, k⟩ ⟨a0, a1, a2, a3⟩ => by
      dsimp only at a0 a1 a2 a3 ⊢
      unfold bailifflaw15_CyclesTwo.l6b
      rw [if_pos (show (0 : Int) ≤ i ∧ i < (A.length : Int) from hi)]
      by_cases hk : k < ((gt A i).length : Int)
      · right
        have htake : ∀ v, v ∈ (gt A i).take (k + 1).toNat ↔ v ∈ (gt A i).take k.toNat ∨ v = gt (gt A i) k := fun v => by
          rw [show (k + 1).toNat = k.toNat + 1 from by omega, List.take_add_one, gt_some a0 hk]
          simp
        rw [if_pos hk, if_pos ⟨a0, hk⟩, range_jn, wrap64 (x := k + 1) (by omega) (by omega)]
        by_cases hv : Tj.Ok A (gt (gt A i) k)
        · rw [if_pos (decide_eq_true (show (0 : Int) ≤ gt (gt A i) k ∧ gt (gt A i) k < (A.length : Int) from hv)), if_pos (by simp; omega), jn_inl]
          refine ⟨_, rfl, ⟨by dsimp only; omega, by dsimp only; omega, by simp; omega, fun v => ?_⟩, by dsimp only; omega⟩
          dsimp only
          rw [List.mem_append, a3, htake]
          simp only [List.mem_singleton]
          constructor
          · rintro (⟨h, h'⟩ | rfl)
            · exact ⟨.inl h, h'⟩
            · exact ⟨.inr rfl, hv⟩
          · rintro ⟨h | h, h'⟩
            · exact .inl ⟨h, h'⟩
            · exact .inr h
        · rw [decide_eq_false (show ¬ ((0 : Int) ≤ gt (gt A i) k ∧ gt (gt A i) k < (A.length : Int)) from hv), if_neg (by simp), jn_inl]
          refine ⟨_, rfl, ⟨by dsimp only; omega, by dsimp only; omega, by dsimp only; omega, fun v => ?_⟩, by dsimp only; omega⟩
          dsimp only
          rw [a3, htake]
          constructor
          · rintro ⟨h, h'⟩; exact ⟨.inl h, h'⟩
          · rintro ⟨h | rfl, h'⟩
            · exact ⟨h, h'⟩
            · exact absurd h' hv
      · left
        rw [if_neg hk]
        refine ⟨_, rfl, q, rfl, by omega, fun v => ?_⟩
        rw [a3, List.take_of_length_le (by omega)]) ([], 0) ⟨Int.le_refl _, by dsimp only; omega, by simp, fun v => by simp⟩
  exact ⟨q, hr, h1, h2⟩
theorem w5_run {i : Int} (hi : Tj.Ok B i) (hl : ((gt B i).length : Int) ≤ 1048576) (hA : (A.length : Int) ≤ 50) (hB : (B.length : Int) ≤ 50) :
    ∃ r, bailifflaw15_CyclesTwo.l5 A B i [] 0 = some (.inl r) ∧ (r.length : Int) ≤ 1048576 ∧ ∀ v, v ∈ r ↔ ∃ w, v = w + A.length ∧ w ∈ gt B i ∧ Tj.Ok B w := by
  obtain ⟨r, hr, q, rfl, h1, h2⟩ := iter_meas (body := fun t_ : (List Int) × Int => bailifflaw15_CyclesTwo.l5b A B i t_.1 t_.2)
    (fun s => 0 ≤ s.2 ∧ s.2 ≤ ((gt B i).length : Int) ∧ (s.1.length : Int) ≤ s.2 ∧ ∀ v, v ∈ s.1 ↔ ∃ w, v = w + A.length ∧ w ∈ (gt B i).take s.2.toNat ∧ Tj.Ok B w)
    (fun r => ∃ q, r = .inl q ∧ (q.length : Int) ≤ 1048576 ∧ ∀ v, v ∈ q ↔ ∃ w, v = w + A.length ∧ w ∈ gt B i ∧ Tj.Ok B w) (fun s => ((gt B i).length - s.2).toNat)
    (fun ⟨q, k⟩ ⟨a0, a1, a2, a3⟩ => by
      dsimp only at a0 a1 a2 a3 ⊢
      unfold bailifflaw15_CyclesTwo.l5b
      rw [if_pos (show (0 : Int) ≤ i ∧ i < (B.length : Int) from hi)]
      by_cases hk : k < ((gt B i).length : Int)
      · right
        have htake : ∀ v, v ∈ (gt B i).take (k + 1).toNat ↔ v ∈ (gt B i).take k.toNat ∨ v = gt (gt B i) k := fun v => by
          rw [show (k + 1).toNat = k.toNat + 1 from by omega, List.take_add_one, gt_some a0 hk]
          simp
        rw [if_pos hk, if_pos ⟨a0, hk⟩, range_jn, wrap64 (x := k + 1) (by omega) (by omega)]
        by_cases hv : Tj.Ok B (gt (gt B i) k)
        · have hv1 := hv.1
          have hv2 := hv.2
          rw [if_pos (decide_eq_true (show (0 : Int) ≤ gt (gt B i) k ∧ gt (gt B i) k < (B.length : Int) from hv)), if_pos (by simp; omega), jn_inl, wrap64 (x := gt (gt B i) k + A.length) (by omega) (by omega)]
          refine ⟨_, rfl, ⟨by dsimp only; omega, by dsimp only; omega, by simp; omega, fun v => ?_⟩, by dsimp only; omega⟩
          dsimp only
          rw [List.mem_append, a3]
          simp only [List.mem_singleton]
          constructor
          · rintro (⟨w, h0, h, h'⟩ | rfl)
            · exact ⟨w, h0, (htake w).2 (.inl h), h'⟩
            · exact ⟨_, rfl, (htake _).2 (.inr rfl), hv⟩
          · rintro ⟨w, h0, h, h'⟩
            rcases (htake w).1 h with h | h
            · exact .inl ⟨w, h0, h, h'⟩
            · subst h; exact .inr h0
        · rw [decide_eq_false (show ¬ ((0 : Int) ≤ gt (gt B i) k ∧ gt (gt B i) k < (B.length : Int)) from hv), if_neg (by simp), jn_inl]
          refine ⟨_, rfl, ⟨by dsimp only; omega, by dsimp only; omega, by dsimp only; omega, fun v => ?_⟩, by dsimp only; omega⟩
          dsimp only
          rw [a3]
          constructor
          · rintro ⟨w, h0, h, h'⟩; exact ⟨w, h0, (htake w).2 (.inl h), h'⟩
          · rintro ⟨w, h0, h, h'⟩
            rcases (htake w).1 h with h | h
            · exact ⟨w, h0, h, h'⟩
            · subst h; exact absurd h' hv
      · left
        rw [if_neg hk]
        refine ⟨_, rfl, q, rfl, by omega, fun v => ?_⟩
        rw [a3, List.take_of_length_le (by omega)]) ([], 0) ⟨Int.le_refl _, by dsimp only; omega, by simp, fun v => by simp⟩
  exact ⟨q, hr, h1, h2⟩
theorem w1_run (hA : (A.length : Int) ≤ 50) (hrow : ∀ r ∈ A, (r.length : Int) ≤ 1048576) :
    ∃ X, bailifflaw15_CyclesTwo.l1 A [] 0 = some (.inl X) ∧ X.length = A.length ∧ (∀ r ∈ X, (r.length : Int) ≤ 1048576) ∧ ∀ u, Tj.Ok A u → ∀ v, v ∈ gt X u ↔ v ∈ gt A u ∧ Tj.Ok A v := by
  obtain ⟨r, hr, X, rfl, h1, h2, h3⟩ := iter_meas (body := fun t_ : (List (List Int)) × Int => bailifflaw15_CyclesTwo.l1b A t_.1 t_.2)
    (fun s => 0 ≤ s.2 ∧ s.2 ≤ (A.length : Int) ∧ (s.1.length : Int) = s.2 ∧ (∀ r ∈ s.1, (r.length : Int) ≤ 1048576) ∧ ∀ u, 0 ≤ u → u < s.2 → ∀ v, v ∈ gt s.1 u ↔ v ∈ gt A u ∧ Tj.Ok A v)
    (fun r => ∃ X, r = .inl X ∧ X.length = A.length ∧ (∀ r ∈ X, (r.length : Int) ≤ 1048576) ∧ ∀ u, Tj.Ok A u → ∀ v, v ∈ gt X u ↔ v ∈ gt A u ∧ Tj.Ok A v) (fun s => (A.length - s.2).toNat)
    (fun ⟨X, i⟩ ⟨a0, a1, a2, a3, a4⟩ => by
      dsimp only at a0 a1 a2 a3 a4 ⊢
      unfold bailifflaw15_CyclesTwo.l1b
      by_cases hi : i < (A.length : Int)
      · right
        obtain ⟨q, b0, b1, b2⟩ := w6_run (A := A) (i := i) ⟨a0, hi⟩ (hrow _ (gt_mem a0 hi))
        rw [if_pos hi, b0, jn_inl, if_pos (by omega), wrap64 (x := i + 1) (by omega) (by omega)]
        refine ⟨_, rfl, ⟨by dsimp only; omega, by dsimp only; omega, by simp; omega, fun r hr => ?_, fun u hu0 hu1 v => ?_⟩, by dsimp only; omega⟩
        · rcases List.mem_append.1 hr with h | h
          · exact a3 r h
          · simp at h; rw [h]; exact b1
        · dsimp only at hu1 ⊢
          by_cases hui : u = i
          · subst hui
            rw [← a2, gt_last, b2, a2]
          · rw [gt_app_left hu0 (by omega)]
            exact a4 u hu0 (by omega) v
      · left
        rw [if_neg hi]
        exact ⟨_, rfl, X, rfl, by omega, a3, fun u hu v => a4 u hu.1 (by have := hu.2; omega) v⟩) ([], 0) ⟨Int.le_refl _, by dsimp only; omega, rfl, by simp, fun u h0 h1 => by dsimp only at h1; omega⟩
  exact ⟨X, hr, h1, h2, h3⟩
theorem w2_run {X0 : List (List Int)} (hX0 : X0.length = A.length) (hA : (A.length : Int) ≤ 50) (hB : (B.length : Int) ≤ 50) (hrow : ∀ r ∈ B, (r.length : Int) ≤ 1048576) (hr0 : ∀ r ∈ X0, (r.length : Int) ≤ 1048576) :
    ∃ X, bailifflaw15_CyclesTwo.l2 A B X0 0 = some (.inl X) ∧ X.length = A.length + B.length ∧ (∀ r ∈ X, (r.length : Int) ≤ 1048576) ∧ (∀ u, Tj.Ok A u → gt X u = gt X0 u) ∧ ∀ u, Tj.Ok B u → ∀ v, v ∈ gt X (u + A.length) ↔ ∃ w, v = w + A.length ∧ w ∈ gt B u ∧ Tj.Ok B w := by
  obtain ⟨r, hr, X, rfl, h1, h2, h3, h4⟩ := iter_meas (body := fun t_ : (List (List Int)) × Int => bailifflaw15_CyclesTwo.l2b A B t_.1 t_.2)
    (fun s => 0 ≤ s.2 ∧ s.2 ≤ (B.length : Int) ∧ (s.1.length : Int) = A.length + s.2 ∧ (∀ r ∈ s.1, (r.length : Int) ≤ 1048576) ∧ (∀ u, Tj.Ok A u → gt s.1 u = gt X0 u) ∧ ∀ u, 0 ≤ u → u < s.2 → ∀ v, v ∈ gt s.1 (u + A.length) ↔ ∃ w, v = w + A.length ∧ w ∈ gt B u ∧ Tj.Ok B w)
    (fun r => ∃ X, r = .inl X ∧ X.length = A.length + B.length ∧ (∀ r ∈ X, (r.length : Int) ≤ 1048576) ∧ (∀ u, Tj.Ok A u → gt X u = gt X0 u) ∧ ∀ u, Tj.Ok B u → ∀ v, v ∈ gt X (u + A.length) ↔ ∃ w, v = w + A.length ∧ w ∈ gt B u ∧ Tj.Ok B w) (fun s => (B.length - s.2).toNat)
    (fun ⟨X, i⟩ ⟨a0, a1, a2, a3, a4, a5⟩ => by
      dsimp only at a0 a1 a2 a3 a4 a5 ⊢
      unfold bailifflaw15_CyclesTwo.l2b
      by_cases hi : i < (B.length : Int)
      · right
        obtain ⟨q, b0, b1, b2⟩ := w5_run (A := A) (B := B) (i := i) ⟨a0, hi⟩ (hrow _ (gt_mem a0 hi)) hA hB
        rw [if_pos hi, b0, jn_inl, if_pos (by omega), wrap64 (x := i + 1) (by omega) (by omega)]
        refine ⟨_, rfl, ⟨by dsimp only; omega, by dsimp only; omega, by simp; omega, fun r hr => ?_, fun u hu => ?_, fun u hu0 hu1 v => ?_⟩, by dsimp only; omega⟩
        · rcases List.mem_append.1 hr with h | h
          · exact a3 r h
          · simp at h; rw [h]; exact b1
        · dsimp only
          rw [gt_app_left hu.1 (by have := hu.2; omega)]
          exact a4 u hu
        · dsimp only at hu1 ⊢
          by_cases hui : u = i
          · subst hui
            rw [show u + (A.length : Int) = (X.length : Int) from by omega, gt_last, b2]
          · rw [gt_app_left (by omega) (by omega)]
            exact a5 u hu0 (by omega) v
      · left
        rw [if_neg hi]
        exact ⟨_, rfl, X, rfl, by omega, a3, a4, fun u hu v => a5 u hu.1 (by have := hu.2; omega) v⟩) (X0, 0) ⟨Int.le_refl _, by dsimp only; omega, by dsimp only; omega, hr0, fun _ _ => rfl, fun u h0 h1 => by dsimp only at h1; omega⟩
  exact ⟨X, hr, h1, h2, h3, h4⟩
theorem w0_run {p0 a2 : List Int} (hp : (p0.length : Int) ≤ 50) (hB : (B.length : Int) ≤ 50) : ∃ p, bailifflaw15_CyclesTwo.l0 a2 B p0 0 = some (.inl p) ∧ p.length = p0.length + B.length := by
  obtain ⟨r, hr, p, rfl, h1⟩ := iter_meas (body := fun t_ : (List Int) × Int => bailifflaw15_CyclesTwo.l0b a2 B t_.1 t_.2)
    (fun s => 0 ≤ s.2 ∧ s.2 ≤ (B.length : Int) ∧ (s.1.length : Int) = p0.length + s.2)
    (fun r => ∃ p, r = .inl p ∧ p.length = p0.length + B.length) (fun s => (B.length - s.2).toNat)
    (fun ⟨p, i⟩ ⟨a0, a1, a2⟩ => by
      dsimp only at a0 a1 a2 ⊢
      unfold bailifflaw15_CyclesTwo.l0b
      by_cases hi : i < (B.length : Int)
      · right
        rw [if_pos hi, if_pos (by simp; omega), wrap64 (x := i + 1) (by omega) (by omega)]
        exact ⟨_, rfl, ⟨by dsimp only; omega, by dsimp only; omega, by simp; omega⟩, by dsimp only; omega⟩
      · left
        rw [if_neg hi]
        exact ⟨_, rfl, p, rfl, by omega⟩) (p0, 0) ⟨Int.le_refl _, by dsimp only; omega, by dsimp only; omega⟩
  exact ⟨p, hr, h1⟩
theorem w4_run {X Y : List (List Int)} {i j : Int} (hj : i - X.length = j) (h0 : 0 ≤ j) (h1 : j < (Y.length : Int)) (hi : i ≤ 1000) (hX : (X.length : Int) ≤ 50) (hA : (A.length : Int) ≤ 50) (hy : ∀ w ∈ gt Y j, 0 ≤ w ∧ w < 50) (hyl : ((gt Y j).length : Int) ≤ 50) :
    bailifflaw15_CyclesTwo.l4 A X Y i [] 0 = some (.inl (shift A.length (gt Y j))) := by
  obtain ⟨r, hr, rfl⟩ := iter_meas (body := fun t_ : (List Int) × Int => bailifflaw15_CyclesTwo.l4b A X Y i t_.1 t_.2)
    (fun s => 0 ≤ s.2 ∧ s.2 ≤ ((gt Y j).length : Int) ∧ s.1 = shift A.length ((gt Y j).take s.2.toNat))
    (fun r => r = .inl (shift A.length (gt Y j))) (fun s => ((gt Y j).length - s.2).toNat)
    (fun ⟨q, k⟩ ⟨a0, a1, a2⟩ => by
      dsimp only at a0 a1 a2 ⊢
      unfold bailifflaw15_CyclesTwo.l4b
      rw [hj, wrap64 (x := j) (by omega) (by omega), if_pos ⟨h0, h1⟩]
      by_cases hk : k < ((gt Y j).length : Int)
      · right
        have hw := hy _ (gt_mem a0 hk)
        have hql : q.length = k.toNat := by rw [a2]; unfold shift; simp; omega
        rw [if_pos hk, if_pos ⟨a0, hk⟩, if_pos (by simp; omega), wrap64 (x := k + 1) (by omega) (by omega), wrap64 (x := gt (gt Y j) k + A.length) (by omega) (by omega)]
        refine ⟨_, rfl, ⟨by dsimp only; omega, by dsimp only; omega, ?_⟩, by dsimp only; omega⟩
        dsimp only
        rw [a2, show (k + 1).toNat = k.toNat + 1 from by omega, List.take_add_one, gt_some a0 hk]
        unfold shift
        simp
      · left
        rw [if_neg hk]
        refine ⟨_, rfl, ?_⟩
        rw [a2, List.take_of_length_le (by omega)]) ([], 0) ⟨Int.le_refl _, by dsimp only; omega, by simp [shift]⟩
  exact hr
theorem gt_app_right {α : Type} [Inhabited α] {xs ys : List α} {i : Int} (h0 : (xs.length : Int) ≤ i) : gt (xs ++ ys) i = gt ys (i - xs.length) := by
  unfold gt
  rw [List.getD_eq_getElem?_getD, List.getD_eq_getElem?_getD, List.getElem?_append_right (by omega), show i.toNat - xs.length = (i - (xs.length : Int)).toNat from by omega]
theorem w3_run {X Y : List (List Int)} (hX : (X.length : Int) ≤ 50) (hY : (Y.length : Int) ≤ 50) (hA : (A.length : Int) ≤ 50) (hxl : ∀ p ∈ X, (p.length : Int) ≤ 50) (hy : ∀ p ∈ Y, (p.length : Int) ≤ 50 ∧ ∀ w ∈ p, 0 ≤ w ∧ w < 50) :
    bailifflaw15_CyclesTwo.l3 A X Y (X ++ Y.map (shift A.length)) 0 = some (.inl ()) := by
  have hZ : ((X ++ Y.map (shift A.length)).length : Int) = X.length + Y.length := by simp
  obtain ⟨r, hr, rfl⟩ := iter_meas (body := fun t_ : Int => bailifflaw15_CyclesTwo.l3b A X Y (X ++ Y.map (shift A.length)) t_)
    (fun s => 0 ≤ s ∧ s ≤ (X.length : Int) + Y.length) (fun r => r = .inl ()) (fun s => (X.length + Y.length - s).toNat)
    (fun i ⟨a0, a1⟩ => by
      unfold bailifflaw15_CyclesTwo.l3b
      rw [hZ]
      by_cases hi : i < (X.length : Int) + Y.length
      · right
        rw [if_pos hi]
        by_cases hx : i < (X.length : Int)
        · have hm := gt_mem a0 hx
          rw [if_pos hx, if_pos ⟨a0, hx⟩, if_pos ⟨a0, hi⟩, gt_app_left a0 hx, same_run (by have := hxl _ hm; omega)]
          simp only [Option.bind_some]
          rw [if_pos (by simp), jn_inl, wrap64 (x := i + 1) (by omega) (by omega)]
          exact ⟨_, rfl, ⟨by omega, by omega⟩, by omega⟩
        · have hj0 : 0 ≤ i - X.length := by omega
          have hj1 : i - X.length < (Y.length : Int) := by omega
          have hm := gt_mem hj0 hj1
          have hgt : gt (Y.map (shift A.length)) (i - X.length) = shift A.length (gt Y (i - X.length)) := by
            have := gt_some hj0 hj1
            unfold gt at this ⊢
            rw [List.getD_eq_getElem?_getD, List.getElem?_map, this]
            rfl
          have hsl : ((shift A.length (gt Y (i - X.length))).length : Int) ≤ 50 := by unfold shift; simpa using (hy _ hm).1
          rw [if_neg hx, w4_run rfl hj0 hj1 (by omega) hX hA (hy _ hm).2 (hy _ hm).1, jn_inl, if_pos ⟨a0, hi⟩, gt_app_right (by omega), hgt, same_run (by omega)]
          simp only [Option.bind_some]
          rw [if_pos (by simp), jn_inl, wrap64 (x := i + 1) (by omega) (by omega)]
          exact ⟨_, rfl, ⟨by omega, by omega⟩, by omega⟩
      · left
        rw [if_neg hi]
        exact ⟨_, rfl, rfl⟩) 0 ⟨Int.le_refl _, by omega⟩
  exact hr
theorem two_some (hA : (A.length : Int) ≤ 50) (hB : (B.length : Int) ≤ 50) (hrA : ∀ r ∈ A, (r.length : Int) ≤ 1048576) (hrB : ∀ r ∈ B, (r.length : Int) ≤ 1048576) {a0 a1 : List (List Int)} {pr : List Int} {q : Int} (h0 : bailifflaw15_cut.f a0 = some A) (h1 : bailifflaw15_cut.f a1 = some B) :
    bailifflaw15_CyclesTwo.f a0 a1 pr q = some true := by
  obtain ⟨p, p0, pl⟩ := w0_run (B := B) (p0 := pr.take ((List.replicate (A.length : Int).toNat (0 : Int)).length) ++ (List.replicate (A.length : Int).toNat (0 : Int)).drop pr.length) (a2 := pr) (by simp; omega) hB
  have hpl : p.length = A.length + B.length := by rw [pl]; simp; omega
  obtain ⟨X0, x0, x1, x2, x3⟩ := w1_run hA hrA
  obtain ⟨C, c0, c1, c2, c3, c4⟩ := w2_run (A := A) (B := B) x1 hA hB hrB x2
  have hS : Side A B C := ⟨c1, fun u hu v => by rw [c3 u hu]; exact x3 u hu v, c4⟩
  have hrow : ∀ {G : List (List Int)}, (∀ r ∈ G, (r.length : Int) ≤ 1048576) → ∀ r ∈ G, (r.length : Int) ≤ 9223372036854775807 := fun h r hr => by have := h r hr; omega
  obtain ⟨oA, eA, hPA⟩ := Components_run (G := A) (by omega) (hrow hrA)
  obtain ⟨oB, eB, hPB⟩ := Components_run (G := B) (by omega) (hrow hrB)
  obtain ⟨oC, eC, hPC⟩ := Components_run (G := C) (by omega) (hrow c2)
  have hcc := hS.comps hPA hPB hPC
  have hlo : ∀ {G : List (List Int)} {o : List (List Int)}, (G.length : Int) ≤ 50 → Parts G (fun _ => true) o → ((byHead o).length : Int) ≤ 50 ∧ ∀ p ∈ byHead o, (p.length : Int) ≤ 50 ∧ ∀ w ∈ p, 0 ≤ w ∧ w < 50 := fun {G o} hG hP => by
    refine ⟨?_, fun p hp => ⟨?_, fun w hw => ?_⟩⟩
    · have := hP.len
      have h2 : (byHead o).length = o.length := (List.mergeSort_perm _ _).length_eq
      omega
    · have := rising_len (a := -1) (c := (G.length : Int) - 1) (hP.asc p (mem_byHead.1 hp)) (fun x hx => by have := (hP.el p (mem_byHead.1 hp) x hx).1; unfold Tj.Ok at this; omega) (by omega)
      omega
    · have := (hP.el p (mem_byHead.1 hp) w hw).1
      unfold Tj.Ok at this
      omega
  have lA := hlo hA hPA
  have lB := hlo hB hPB
  obtain ⟨a, ba, ma⟩ := bad_run (G := A) (pr := p.take A.length) (q := q) (by omega) (hrow hrA)
  obtain ⟨b, bb, mb⟩ := bad_run (G := B) (pr := p.drop A.length) (q := q) (by omega) (hrow hrB)
  obtain ⟨c, bc, mc⟩ := bad_run (G := C) (pr := p) (q := q) (by omega) (hrow c2)
  have hbad := hS.bad (by omega) ma mb mc
  unfold bailifflaw15_CyclesTwo.f
  rw [shown_run, h0]
  simp only [Option.bind_some]
  rw [h1]
  simp only [Option.bind_some]
  rw [if_pos ⟨by omega, by omega⟩, p0, jn_inl, x0, jn_inl, c0, jn_inl, eA]
  simp only [Option.bind_some]
  rw [eB]
  simp only [Option.bind_some]
  rw [eC, hcc]
  simp only [Option.bind_some]
  have hsum : ((byHead oA ++ (byHead oB).map (shift A.length)).length : Int) = IntKind.i64.wrap ((byHead oA).length + (byHead oB).length) := by
    rw [wrap64 (by omega) (by omega)]; simp
  rw [if_pos trivial, jn_inl, decide_eq_true hsum, if_neg (by simp), w3_run lA.1 lB.1 hA (fun p hp => (lA.2 p hp).1) lB.2, jn_inl, if_pos ⟨by omega, by omega⟩, show (A.length : Int).toNat = A.length from by omega, ba, bb, bc]
  simp only [Option.bind_some]
  by_cases ha : a < 0
  · rw [if_pos ha] at hbad ⊢
    by_cases hb : 0 ≤ b
    · rw [if_pos hb] at hbad ⊢
      have hb2 : b < 50 := by have := (mb.mem hb).1.2; omega
      rw [hbad, wrap64 (x := b + A.length) (by omega) (by omega)]
      simp
    · rw [if_neg hb] at hbad ⊢
      rw [hbad]
      simp
  · rw [if_neg ha] at hbad ⊢
    rw [hbad]
    simp
theorem len_tot : ∀ {G : List (List Int)} {r : List Int}, r ∈ G → (r.length : Int) ≤ tot G
  | [], r, h => by cases h
  | a :: G, r, h => by
    rw [tot_cons]
    rcases List.mem_cons.1 h with rfl | h
    · have := tot_nonneg G; omega
    · have := len_tot h; omega
theorem bailifflaw15_CyclesTwo_run {a0 a1 : List (List Int)} {a2 : List Int} {a3 : Int} (_ : ∀ xs ∈ a0, xs.length ≤ maxLen) (_ : ∀ xs ∈ a0, ∀ x ∈ xs, (Lit.int .i64 x).wf = true) (hb0 : tot a0 + (a0.length : Int) ≤ 1048576)
    (_ : ∀ xs ∈ a1, xs.length ≤ maxLen) (_ : ∀ xs ∈ a1, ∀ x ∈ xs, (Lit.int .i64 x).wf = true) (hb1 : tot a1 + (a1.length : Int) ≤ 1048576) (_ : ∀ x ∈ a2, (Lit.int .i64 x).wf = true) (_ : (a2.length : Int) ≤ 1048576) (_ : (Lit.int .i64 a3).wf = true) :
    bailifflaw15_CyclesTwo.f a0 a1 a2 a3 = some true :=
  two_some (by simp; omega) (by simp; omega) (fun r hr => by have := len_tot (List.mem_of_mem_take hr); omega) (fun r hr => by have := len_tot (List.mem_of_mem_take hr); omega) (cut_run a0) (cut_run a1)
end
end Go.Bw
