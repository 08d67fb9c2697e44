/- When a system may be: what the model of Right comes to. Conditions: none. -/
import Derived.Test.YtbkooifhcekpmaaGreatBwRi3
import Derived.Test.YtbkooifhcekpmaaGreatBwRi3A
import Derived.Test.YtbkooifhcekpmaaGreatBwLtsCmp
import Derived.Test.YtbkooifhcekpmaaGreatBwLoop
set_option linter.unusedVariables false
set_option linter.unusedSimpArgs false
set_option linter.unusedSectionVars false
namespace Go.Bw
open Go Go.RowKit

/-- A loop that goes up one by one. -/
theorem up_loop {ρ : Type} {body : Int → Option (Int ⊕ ρ)} {N : Int} {Q : ρ → Prop} (hN : N ≤ 9223372036854775807) (k0 : Int) (h0 : -9223372036854775808 ≤ k0) (h : ∀ i, k0 ≤ i → (∃ r, body i = some (.inr r) ∧ Q r) ∨ i < N ∧ body i = some (.inl (IntKind.i64.wrap (i + 1)))) :
    ∃ r, iter body k0 = some r ∧ Q r := by
  refine iter_meas (fun i => k0 ≤ i) Q (fun i => (N - i).toNat) (fun i hi => ?_) k0 (Int.le_refl _)
  rcases h i hi with h | ⟨h1, h2⟩
  · exact .inl h
  · right
    rw [wrap64 (by omega) (by omega)] at h2
    exact ⟨_, h2, by omega, by omega⟩
/-- .. that ends with a truth. -/
theorem jn_true {x : Option (Unit ⊕ Bool)} (h : ∃ r, x = some r ∧ True) : ∃ b, jn x (fun _ => some true) = some b := by
  obtain ⟨r, rfl, _⟩ := h
  cases r <;> exact ⟨_, rfl⟩
theorem jn_int {x : Option (Unit ⊕ Int)} (h : ∃ r, x = some r ∧ True) : ∃ b, jn x (fun _ => some (-1)) = some b := by
  obtain ⟨r, rfl, _⟩ := h
  cases r <;> exact ⟨_, rfl⟩
theorem rises_int_run (a : List Int) (ha : (a.length : Int) ≤ 9223372036854775807) : ∃ b, lts_rises_int.f a = some b := by
  refine jn_true (up_loop (body := fun t_ : Int => lts_rises_int.l0b a t_) (N := a.length) ha 1 (by decide) fun i hi => ?_)
  unfold lts_rises_int.l0b
  by_cases h1 : i < (a.length : Int)
  · rw [if_pos h1, wrap64 (x := i - 1) (by omega) (by omega), if_pos (by omega), if_pos (by omega), cmp_int_run]
    simp only [Option.bind_some]
    split
    · exact .inl ⟨_, rfl, trivial⟩
    · exact .inr ⟨h1, rfl⟩
  · rw [if_neg h1]; exact .inl ⟨_, rfl, trivial⟩
theorem rises_str_run (a : List Bs) (ha : (a.length : Int) ≤ 9223372036854775807) : ∃ b, lts_rises_string.f a = some b := by
  refine jn_true (up_loop (body := fun t_ : Int => lts_rises_string.l0b a t_) (N := a.length) ha 1 (by decide) fun i hi => ?_)
  unfold lts_rises_string.l0b
  by_cases h1 : i < (a.length : Int)
  · rw [if_pos h1, wrap64 (x := i - 1) (by omega) (by omega), if_pos (by omega), if_pos (by omega)]
    simp only [strings_Compare.f, bytealg_CompareString.f, Option.bind_some]
    split
    · exact .inl ⟨_, rfl, trivial⟩
    · exact .inr ⟨h1, rfl⟩
  · rw [if_neg h1]; exact .inl ⟨_, rfl, trivial⟩
theorem rises_prop_run (a : List api_Prop) (ha : (a.length : Int) ≤ 9223372036854775807) : ∃ b, lts_rises_api_Prop.f a = some b := by
  refine jn_true (up_loop (body := fun t_ : Int => lts_rises_api_Prop.l0b a t_) (N := a.length) ha 1 (by decide) fun i hi => ?_)
  unfold lts_rises_api_Prop.l0b
  by_cases h1 : i < (a.length : Int)
  · rw [if_pos h1, wrap64 (x := i - 1) (by omega) (by omega), if_pos (by omega), if_pos (by omega)]
    simp only [lts_byName.f, strings_Compare.f, bytealg_CompareString.f, Option.bind_some]
    split
    · exact .inl ⟨_, rfl, trivial⟩
    · exact .inr ⟨h1, rfl⟩
  · rw [if_neg h1]; exact .inl ⟨_, rfl, trivial⟩
theorem rises_edge_run (a : List api_Edge) (ha : (a.length : Int) ≤ 9223372036854775807) : ∃ b, lts_rises_api_Edge.f a = some b := by
  refine jn_true (up_loop (body := fun t_ : Int => lts_rises_api_Edge.l0b a t_) (N := a.length) ha 1 (by decide) fun i hi => ?_)
  unfold lts_rises_api_Edge.l0b
  by_cases h1 : i < (a.length : Int)
  · rw [if_pos h1, wrap64 (x := i - 1) (by omega) (by omega), if_pos (by omega), if_pos (by omega), edge_run]
    simp only [Option.bind_some]
    split
    · exact .inl ⟨_, rfl, trivial⟩
    · exact .inr ⟨h1, rfl⟩
  · rw [if_neg h1]; exact .inl ⟨_, rfl, trivial⟩
theorem in_run (a n : Int) (x : List Bs) (y : List api_Edge) (z : List api_Prop) : lts_Right_1.f a n x y z = some (decide (0 ≤ a ∧ a < n)) := by
  unfold lts_Right_1.f
  by_cases h : 0 ≤ a <;> simp [h, jn]
theorem rune_pos (s : Bs) (k : Nat) : 1 ≤ runeLen s k := by
  unfold runeLen Utf8.decode
  dsimp only
  repeat' split
  all_goals simp
theorem jn_tot {σ ρ : Type} {x : Option (σ ⊕ ρ)} {f : σ → Option ρ} (hx : ∃ t, x = some t) (hf : ∀ s, ∃ r, f s = some r) : ∃ r, jn x f = some r := by
  obtain ⟨t, rfl⟩ := hx
  cases t with
  | inl s => exact hf s
  | inr r => exact ⟨r, rfl⟩
theorem rune_name (r : Int) : ∃ b, lts_name_1.f r = some b := by
  unfold lts_name_1.f
  repeat' first
    | exact ⟨_, rfl⟩
    | refine jn_tot ?_ fun _ => ?_
    | split
theorem name_run (a : Bs) : ∃ b, lts_name.f a = some b := by
  unfold lts_name.f
  by_cases h1 : (a.length : Int) < 1
  · simp [h1, jn]
  · by_cases h2 : 8 < (a.length : Int)
    · simp [h1, h2, jn]
    · have h0 : (0 : Int) ≤ 0 ∧ 0 < (a.length : Int) := by omega
      have hc : ∃ b, strings_ContainsFunc.f a = some b := by
        unfold strings_ContainsFunc.f strings_IndexFunc.f strings_indexFunc.f
        obtain ⟨r, hr, _⟩ := iter_meas (body := fun t_ : Nat => strings_indexFunc.l0b a true t_) (fun _ => True) (fun _ => True) (fun k => a.length - k) (fun k _ => by
          unfold strings_indexFunc.l0b
          by_cases hk : k < a.length
          · obtain ⟨b, hb⟩ := rune_name (runeAt a k)
            rw [if_pos hk, hb]
            simp only [Option.bind_some]
            split
            · exact .inl ⟨_, rfl, trivial⟩
            · have := rune_pos a k
              exact .inr ⟨_, rfl, trivial, by omega⟩
          · rw [if_neg hk]; exact .inl ⟨_, rfl, trivial⟩) 0 trivial
        unfold strings_indexFunc.l0
        rw [hr]
        cases r <;> simp [jn]
      obtain ⟨c, hc⟩ := hc
      simp only [if_neg h1, jn_inl, decide_eq_false h2, Bool.false_eq_true, if_false, if_pos h0, hc, Option.bind_some]
      by_cases h3 : bat a 0 < 97
      · simp [h3, jn]
      · by_cases h4 : 122 < bat a 0
        · simp [h3, h4, jn]
        · simp only [decide_eq_false h3, decide_eq_false h4, Bool.false_eq_true, if_false, jn_inl]
          repeat' split
          all_goals exact ⟨_, rfl⟩
theorem in_states_run (a : List Int) (n : Int) (x : List Bs) (y : List api_Edge) (z : List api_Prop) (ha : (a.length : Int) ≤ 9223372036854775807) : ∃ b, slices_ContainsFunc_int_int.f a n x y z = some b := by
  unfold slices_ContainsFunc_int_int.f slices_IndexFunc_int_int.f
  obtain ⟨b, hb⟩ := jn_int (up_loop (body := fun t_ : Int => slices_IndexFunc_int_int.l0b a n x y z t_) (N := a.length) (Q := fun _ => True) ha 0 (by decide) fun i hi => by
    unfold slices_IndexFunc_int_int.l0b lts_Right_2.f
    by_cases h1 : i < (a.length : Int)
    · rw [if_pos h1, if_pos (by omega), in_run]
      simp only [Option.bind_some]
      split
      · exact .inl ⟨_, rfl, trivial⟩
      · exact .inr ⟨h1, rfl⟩
    · rw [if_neg h1]; exact .inl ⟨_, rfl, trivial⟩)
  have hb' : jn (slices_IndexFunc_int_int.l0 a n x y z 0) (fun (_ : Unit) => some (-1)) = some b := hb
  rw [hb']
  exact ⟨_, rfl⟩
theorem names_run (a : List Bs) (ha : (a.length : Int) ≤ 9223372036854775807) : ∃ b, slices_ContainsFunc_string_string.f a = some b := by
  unfold slices_ContainsFunc_string_string.f slices_IndexFunc_string_string.f
  obtain ⟨b, hb⟩ := jn_int (up_loop (body := fun t_ : Int => slices_IndexFunc_string_string.l0b a t_) (N := a.length) (Q := fun _ => True) ha 0 (by decide) fun i hi => by
    unfold slices_IndexFunc_string_string.l0b lts_Right_3.f
    by_cases h1 : i < (a.length : Int)
    · obtain ⟨c, hc⟩ := name_run (gt a i)
      rw [if_pos h1, if_pos (by omega), hc]
      simp only [Option.bind_some]
      split
      · exact .inl ⟨_, rfl, trivial⟩
      · exact .inr ⟨h1, rfl⟩
    · rw [if_neg h1]; exact .inl ⟨_, rfl, trivial⟩)
  have hb' : jn (slices_IndexFunc_string_string.l0 a 0) (fun (_ : Unit) => some (-1)) = some b := hb
  rw [hb']
  exact ⟨_, rfl⟩
/-- An edge within what there is. -/
def EdgeIn (n : Int) (m : Nat) (e : api_Edge) : Prop := 0 ≤ e.From ∧ e.From < n ∧ 0 ≤ e.To ∧ e.To < n ∧ 0 ≤ e.Action ∧ e.Action < (m : Int)
theorem edges_run (n : Int) (x : List Bs) (y : List api_Edge) (z : List api_Prop) (hy : (y.length : Int) ≤ 9223372036854775807) :
    ∃ r, lts_Right.l0 n x y z 0 0 = some r ∧ ((∃ u, r = .inl u ∧ ∀ e ∈ y, EdgeIn n x.length e) ∨ r = .inr false) := by
  refine iter_meas (body := fun t_ : Int × Int => lts_Right.l0b n x y z t_.1 t_.2) (fun s => 0 ≤ s.2 ∧ s.2 ≤ (y.length : Int) ∧ ∀ e ∈ y.take s.2.toNat, EdgeIn n x.length e)
    (fun r => (∃ u, r = .inl u ∧ ∀ e ∈ y, EdgeIn n x.length e) ∨ r = .inr false) (fun s => ((y.length : Int) - s.2).toNat) (fun ⟨u, i⟩ ⟨h0, h1, h2⟩ => ?_) (0, 0) ⟨Int.le_refl _, by dsimp only; omega, by simp⟩
  dsimp only at h0 h1 h2 ⊢
  unfold lts_Right.l0b
  by_cases hi : i < (y.length : Int)
  · rw [if_pos hi, if_pos ⟨h0, hi⟩, in_run, in_run]
    simp only [Option.bind_some]
    by_cases e1 : 0 ≤ (gt y i).From ∧ (gt y i).From < n
    · by_cases e2 : 0 ≤ (gt y i).To ∧ (gt y i).To < n
      · by_cases e3 : (gt y i).Action < 0
        · left; exact ⟨_, by simp [e1, e2, e3, jn, upL], .inr rfl⟩
        · by_cases e4 : (x.length : Int) ≤ (gt y i).Action
          · left; exact ⟨_, by simp [e1, e2, e3, e4, jn, upL], .inr rfl⟩
          · right
            have e5 : 0 ≤ (gt y i).Action := by omega
            have hw : IntKind.i64.wrap (i + 1) = i + 1 := wrap64 (by omega) (by omega)
            refine ⟨(bor .u8 u (Bw.shl .u8 1 (gt y i).Action), i + 1), by simp [e1, e2, e3, e4, e5, jn, nx, hw], ⟨by dsimp only; omega, by dsimp only; omega, fun e he => ?_⟩, by dsimp only; omega⟩
            dsimp only at he
            rw [show (i + 1).toNat = i.toNat + 1 from by omega, List.take_add_one, gt_some h0 hi] at he
            rcases List.mem_append.1 he with he | he
            · exact h2 e he
            · simp at he; subst he
              exact ⟨e1.1, e1.2, e2.1, e2.2, e5, by omega⟩
      · left; exact ⟨_, by simp [e1, e2, jn, upL], .inr rfl⟩
    · left; exact ⟨_, by simp [e1, jn, upL], .inr rfl⟩
  · left
    rw [if_neg hi]
    refine ⟨_, rfl, .inl ⟨u, rfl, ?_⟩⟩
    rwa [List.take_of_length_le (by omega)] at h2
theorem props_run (n : Int) (x : List Bs) (y : List api_Edge) (z : List api_Prop) (hz : (z.length : Int) ≤ 9223372036854775807) (hs : ∀ p ∈ z, (p.States.length : Int) ≤ 9223372036854775807) :
    ∃ r, lts_Right.l1 n x y z 0 = some r ∧ (r = .inl () ∨ r = .inr false) := by
  refine up_loop (body := fun t_ : Int => lts_Right.l1b n x y z t_) (N := z.length) hz 0 (by decide) fun i hi => ?_
  unfold lts_Right.l1b
  by_cases h1 : i < (z.length : Int)
  · obtain ⟨b1, hb1⟩ := name_run (gt z i).Name
    obtain ⟨b2, hb2⟩ := rises_int_run (gt z i).States (hs _ (gt_mem hi h1))
    obtain ⟨b3, hb3⟩ := in_states_run (gt z i).States n x y z (hs _ (gt_mem hi h1))
    rw [if_pos h1, if_pos ⟨hi, h1⟩, hb1, hb2, hb3]
    cases b1
    · left; exact ⟨_, by simp [jn, upL], .inr rfl⟩
    · cases b2
      · left; exact ⟨_, by simp [jn, upL], .inr rfl⟩
      · cases b3
        · right; exact ⟨h1, by simp [jn, nx]⟩
        · left; exact ⟨_, by simp [jn, upL], .inr rfl⟩
  · rw [if_neg h1]; exact .inl ⟨_, rfl, .inl rfl⟩
theorem right_run (n : Int) (x : List Bs) (y : List api_Edge) (z : List api_Prop) (hs : ∀ p ∈ z, (p.States.length : Int) ≤ 9223372036854775807) :
    ∃ b, lts_Right.f n x y z = some b ∧ (b = true → 1 ≤ n ∧ n ≤ 24 ∧ x.length ≤ 8 ∧ z.length ≤ 8 ∧ y.length ≤ 200 ∧ ∀ e ∈ y, EdgeIn n x.length e) := by
  unfold lts_Right.f
  by_cases h1 : n < 1
  · exact ⟨false, by simp [h1, jn], fun h => by cases h⟩
  by_cases h2 : 24 < n
  · exact ⟨false, by simp [h1, h2, jn], fun h => by cases h⟩
  by_cases h3 : 8 < (x.length : Int)
  · exact ⟨false, by simp [h1, h2, h3, jn], fun h => by cases h⟩
  by_cases h4 : 8 < (z.length : Int)
  · exact ⟨false, by simp [h1, h2, h3, h4, jn], fun h => by cases h⟩
  by_cases h5 : 200 < (y.length : Int)
  · exact ⟨false, by simp [h1, h2, h3, h4, h5, jn], fun h => by cases h⟩
  simp only [if_neg h1, jn_inl, decide_eq_false h2, decide_eq_false h3, decide_eq_false h4, decide_eq_false h5, Bool.false_eq_true, if_false]
  obtain ⟨r, hr, hr2⟩ := edges_run n x y z (by omega)
  rw [hr]
  rcases hr2 with ⟨u, rfl, he⟩ | rfl
  · rw [jn_inl]
    obtain ⟨q, hq, hq2⟩ := props_run n x y z (by omega) hs
    rw [hq]
    rcases hq2 with rfl | rfl
    · rw [jn_inl]
      obtain ⟨b1, hb1⟩ := names_run x (by omega)
      obtain ⟨b2, hb2⟩ := rises_edge_run y (by omega)
      obtain ⟨b3, hb3⟩ := rises_str_run x (by omega)
      obtain ⟨b4, hb4⟩ := rises_prop_run z (by omega)
      have h0 : (0 : Int) ≤ (x.length : Int) := by omega
      simp only [hb1, hb2, hb3, hb4, Option.bind_some, if_pos h0]
      have fin : ∀ b : Bool, (b = true → 1 ≤ n ∧ n ≤ 24 ∧ x.length ≤ 8 ∧ z.length ≤ 8 ∧ y.length ≤ 200 ∧ ∀ e ∈ y, EdgeIn n x.length e) := fun b _ => ⟨by omega, by omega, by omega, by omega, by omega, he⟩
      have tot : ∀ o : Option Bool, o.isSome = true → ∃ b, o = some b ∧ (b = true → 1 ≤ n ∧ n ≤ 24 ∧ x.length ≤ 8 ∧ z.length ≤ 8 ∧ y.length ≤ 200 ∧ ∀ e ∈ y, EdgeIn n x.length e) := fun o ho => by
        cases o with
        | none => cases ho
        | some b => exact ⟨b, rfl, fin b⟩
      apply tot
      cases b1 <;> cases b2 <;> cases b3 <;> cases b4 <;> simp [jn] <;> (repeat' split) <;> rfl
    · exact ⟨false, rfl, fun h => by cases h⟩
  · exact ⟨false, rfl, fun h => by cases h⟩
end Go.Bw
