/- When a system may be: what the model of lts.Right says. Conditions: none. -/
import Derived.Test.YtbkooifhcekpmaaGreatBwLts6
set_option linter.unusedVariables false
set_option linter.unusedSimpArgs false
set_option linter.unusedSectionVars false
namespace Go.Bw
open Go Go.RowKit

/-! ### Eight bits -/
def W8 (v : BitVec 8) : Int := (v.toNat : Int)
theorem ofInt_w8 (v : BitVec 8) : BitVec.ofInt 8 (W8 v) = v := by
  unfold W8
  apply BitVec.eq_of_toNat_eq
  simp
theorem W8.inj {u v : BitVec 8} (h : W8 u = W8 v) : u = v := by rw [← ofInt_w8 u, h, ofInt_w8]
theorem wrap8 {x : Int} (h0 : 0 ≤ x) (h1 : x < 256) : IntKind.u8.wrap x = x := by
  simp [IntKind.wrap, IntKind.bits, IntKind.signed]
  omega
theorem wrap_w8 (v : BitVec 8) : IntKind.u8.wrap (v.toNat : Int) = W8 v := by
  have := v.isLt
  exact wrap8 (by omega) (by omega)
theorem bor_w8 (u v : BitVec 8) : bor .u8 (W8 u) (W8 v) = W8 (u ||| v) := by
  show IntKind.u8.wrap ((BitVec.ofInt 8 (W8 u) ||| BitVec.ofInt 8 (W8 v)).toNat : Int) = _
  rw [ofInt_w8, ofInt_w8, wrap_w8]
theorem shl8 {k : Int} (h0 : 0 ≤ k) (h1 : k < 8) : Bw.shl .u8 1 k = W8 (BitVec.twoPow 8 k.toNat) := by
  obtain ⟨m, rfl⟩ := Int.eq_ofNat_of_zero_le h0
  have hm : m < 8 := by omega
  match m, hm with
  | 0, _ => rfl
  | 1, _ => rfl
  | 2, _ => rfl
  | 3, _ => rfl
  | 4, _ => rfl
  | 5, _ => rfl
  | 6, _ => rfl
  | 7, _ => rfl
def full8 (m : Nat) : BitVec 8 := BitVec.allOnes 8 >>> (8 - m)
theorem full_run {m : Nat} (hm : m ≤ 8) : IntKind.u8.wrap (Bw.shl .u8 1 (m : Int) - 1) = W8 (full8 m) := by
  match m, hm with
  | 0, _ => rfl
  | 1, _ => rfl
  | 2, _ => rfl
  | 3, _ => rfl
  | 4, _ => rfl
  | 5, _ => rfl
  | 6, _ => rfl
  | 7, _ => rfl
  | 8, _ => rfl
theorem full_bit {m k : Nat} (hm : m ≤ 8) (hk : k < 8) : (full8 m).getLsbD k = decide (k < m) := by
  unfold full8
  rw [BitVec.getLsbD_ushiftRight, BitVec.getLsbD_allOnes]
  rw [decide_eq_decide]
  omega
/-- All actions are used. -/
def UsedS (m : Nat) (y : List api_Edge) : Prop := ∀ k : Int, 0 ≤ k → k < (m : Int) → ∃ e ∈ y, e.Action = k
def Mask (v : BitVec 8) (y : List api_Edge) : Prop := ∀ k : Nat, k < 8 → (v.getLsbD k = true ↔ ∃ e ∈ y, e.Action = (k : Int))
theorem mask_used {v : BitVec 8} {y : List api_Edge} {n : Int} {m : Nat} (hv : Mask v y) (hm : m ≤ 8) (he : ∀ e ∈ y, EdgeIn n m e) : v = full8 m ↔ UsedS m y := by
  constructor
  · rintro rfl k k0 k1
    have := (hv k.toNat (by omega)).1 (by rw [full_bit hm (by omega)]; simp; omega)
    obtain ⟨e, h1, h2⟩ := this
    exact ⟨e, h1, by omega⟩
  · intro h
    apply BitVec.eq_of_getLsbD_eq
    intro k hk
    rw [full_bit hm hk, Bool.eq_iff_iff, hv k hk, decide_eq_true_eq]
    constructor
    · rintro ⟨e, h1, h2⟩
      have := (he e h1).2.2.2.2.2
      omega
    · intro hkm
      exact h k (by omega) (by omega)
theorem edges_iff (n : Int) (x : List Bs) (y : List api_Edge) (z : List api_Prop) (hy : (y.length : Int) ≤ 9223372036854775807) (hx : x.length ≤ 8) :
    (∃ v, lts_Right.l0 n x y z 0 0 = some (.inl (W8 v)) ∧ Mask v y ∧ ∀ e ∈ y, EdgeIn n x.length e) ∨ (lts_Right.l0 n x y z 0 0 = some (.inr false) ∧ ¬ ∀ e ∈ y, EdgeIn n x.length e) := by
  obtain ⟨r, hr, hq⟩ := iter_meas (body := fun t_ : Int × Int => lts_Right.l0b n x y z t_.1 t_.2) (fun s => 0 ≤ s.2 ∧ s.2 ≤ (y.length : Int) ∧ (∀ e ∈ y.take s.2.toNat, EdgeIn n x.length e) ∧ ∃ v, s.1 = W8 v ∧ Mask v (y.take s.2.toNat))
    (fun r => (∃ v, r = .inl (W8 v) ∧ Mask v y ∧ ∀ e ∈ y, EdgeIn n x.length e) ∨ (r = .inr false ∧ ¬ ∀ e ∈ y, EdgeIn n x.length e)) (fun s => ((y.length : Int) - s.2).toNat) (fun ⟨u, i⟩ ⟨h0, h1, h2, v, h3, h4⟩ => by
      dsimp only at h0 h1 h2 h3 h4 ⊢
      subst h3
      unfold lts_Right.l0b
      by_cases hi : i < (y.length : Int)
      · have hm := gt_mem h0 hi
        rw [if_pos hi, if_pos ⟨h0, hi⟩, in_run, in_run]
        simp only [Option.bind_some]
        by_cases e1 : 0 ≤ (gt y i).From ∧ (gt y i).From < n
        · by_cases e2 : 0 ≤ (gt y i).To ∧ (gt y i).To < n
          · by_cases e3 : (gt y i).Action < 0
            · left; exact ⟨_, by simp [e1, e2, e3, jn, upL], .inr ⟨rfl, fun h => by have := (h _ hm).2.2.2.2.1; omega⟩⟩
            · by_cases e4 : (x.length : Int) ≤ (gt y i).Action
              · left; exact ⟨_, by simp [e1, e2, e3, e4, jn, upL], .inr ⟨rfl, fun h => by have := (h _ hm).2.2.2.2.2; omega⟩⟩
              · right
                have e5 : 0 ≤ (gt y i).Action := by omega
                have hw : IntKind.i64.wrap (i + 1) = i + 1 := wrap64 (by omega) (by omega)
                have ht : y.take (i + 1).toNat = y.take i.toNat ++ [gt y i] := by
                  rw [show (i + 1).toNat = i.toNat + 1 from by omega, List.take_add_one, gt_some h0 hi]; rfl
                refine ⟨(W8 (v ||| BitVec.twoPow 8 (gt y i).Action.toNat), i + 1), by simp [e1, e2, e3, e4, e5, jn, nx, hw, shl8 e5 (by omega), bor_w8], ⟨by dsimp only; omega, by dsimp only; omega, fun e he => ?_, _, rfl, fun k hk => ?_⟩, by dsimp only; omega⟩
                · dsimp only at he
                  rw [ht] at he
                  rcases List.mem_append.1 he with he | he
                  · exact h2 e he
                  · simp at he; subst he
                    exact ⟨e1.1, e1.2, e2.1, e2.2, e5, by omega⟩
                · dsimp only
                  rw [ht, BitVec.getLsbD_or, Bool.or_eq_true, h4 k hk, BitVec.getLsbD_twoPow]
                  constructor
                  · rintro (⟨e, a, b⟩ | h)
                    · exact ⟨e, by simp [a], b⟩
                    · simp at h
                      exact ⟨gt y i, by simp, by omega⟩
                  · rintro ⟨e, a, b⟩
                    rcases List.mem_append.1 a with a | a
                    · exact .inl ⟨e, a, b⟩
                    · simp at a
                      subst a
                      right
                      simp
                      omega
          · left; exact ⟨_, by simp [e1, e2, jn, upL], .inr ⟨rfl, fun h => e2 ⟨(h _ hm).2.2.1, (h _ hm).2.2.2.1⟩⟩⟩
        · left; exact ⟨_, by simp [e1, jn, upL], .inr ⟨rfl, fun h => e1 ⟨(h _ hm).1, (h _ hm).2.1⟩⟩⟩
      · left
        rw [if_neg hi]
        rw [List.take_of_length_le (by omega)] at h2 h4
        exact ⟨_, rfl, .inl ⟨v, rfl, h4, h2⟩⟩) (0, 0) ⟨Int.le_refl _, by dsimp only; omega, by simp, 0#8, rfl, fun k hk => by simp⟩
  rcases hq with ⟨v, rfl, h⟩ | ⟨rfl, h⟩
  · exact .inl ⟨v, hr, h⟩
  · exact .inr ⟨hr, h⟩
def PropS (n : Int) (p : api_Prop) : Prop := NameS p.Name ∧ StatesS n p.States
theorem props_iff (n : Int) (x : List Bs) (y : List api_Edge) (z : List api_Prop) (hz : (z.length : Int) ≤ 9223372036854775807) (hs : ∀ p ∈ z, (p.States.length : Int) ≤ 9223372036854775807) :
    (lts_Right.l1 n x y z 0 = some (.inl ()) ∧ ∀ p ∈ z, PropS n p) ∨ (lts_Right.l1 n x y z 0 = some (.inr false) ∧ ¬ ∀ p ∈ z, PropS n p) := by
  have key := up_iff (body := fun t_ : Int => lts_Right.l1b n x y z t_) (N := z.length) (p := fun i => PropS n (gt z i)) (bad := false) hz 0 (by decide) (fun i hi h1 => by
    simp only [lts_Right.l1b]
    obtain ⟨b1, hb1, c1⟩ := name_iff (gt z i).Name
    obtain ⟨b2, hb2, c2⟩ := rises_int_iff (gt z i).States (hs _ (gt_mem hi h1))
    obtain ⟨b3, hb3, c3⟩ := inS_iff (gt z i).States n x y z (hs _ (gt_mem hi h1))
    rw [if_pos h1, if_pos ⟨hi, h1⟩, hb1, hb2, hb3]
    unfold PropS StatesS
    rw [← c1, ← c2]
    have c3' : (∀ s ∈ (gt z i).States, 0 ≤ s ∧ s < n) ↔ b3 = false := by
      cases b3 with
      | true => simp only [Bool.true_eq_false, iff_false]; exact c3.1 rfl
      | false => simp only [iff_true]; exact Classical.not_not.1 fun h => by have := c3.2 h; cases this
    rw [c3']
    cases b1 <;> cases b2 <;> cases b3 <;> simp [jn, nx, upL]) (fun i h => by simp only [lts_Right.l1b]; rw [if_neg h]; rfl)
  have hiff : (∀ i : Int, 0 ≤ i → i < (z.length : Int) → PropS n (gt z i)) ↔ ∀ p ∈ z, PropS n p := by
    constructor
    · intro h p hp
      obtain ⟨k, hk, rfl⟩ := List.getElem_of_mem hp
      have := h k (by omega) (by omega)
      rwa [gt_of_get (List.getElem?_eq_getElem hk)] at this
    · exact fun h i i0 i1 => h _ (gt_mem i0 i1)
  rcases key with ⟨h, q⟩ | ⟨h, i, i0, i1, i2⟩
  · exact .inl ⟨h, hiff.1 q⟩
  · exact .inr ⟨h, fun hr => i2 (hiff.2 hr i i0 i1)⟩
/-- A system that may be. -/
structure RightS (n : Int) (x : List Bs) (y : List api_Edge) (z : List api_Prop) : Prop where
  n0 : 1 ≤ n
  n1 : n ≤ 24
  nx : x.length ≤ 8
  nz : z.length ≤ 8
  ny : y.length ≤ 200
  ed : ∀ e ∈ y, EdgeIn n x.length e
  pr : ∀ p ∈ z, PropS n p
  nm : ∀ s ∈ x, NameS s
  us : UsedS x.length y
  re : Rise edgeLt y
  rx : Rise BLt x
  rz : Rise (fun p q => BLt p.Name q.Name) z
theorem right_iff (n : Int) (x : List Bs) (y : List api_Edge) (z : List api_Prop) (hs : ∀ p ∈ z, (p.States.length : Int) ≤ 9223372036854775807) : ∃ b, lts_Right.f n x y z = some b ∧ (b = true ↔ RightS n x y z) := by
  have no : ∀ {P : Prop}, ¬ P → (false = true ↔ P) := fun h => ⟨fun e => (by cases e), fun p => absurd p h⟩
  unfold lts_Right.f
  by_cases h1 : n < 1
  · exact ⟨false, by simp [h1, jn], no fun h => by have := h.n0; omega⟩
  by_cases h2 : 24 < n
  · exact ⟨false, by simp [h1, h2, jn], no fun h => by have := h.n1; omega⟩
  by_cases h3 : 8 < (x.length : Int)
  · exact ⟨false, by simp [h1, h2, h3, jn], no fun h => by have := h.nx; omega⟩
  by_cases h4 : 8 < (z.length : Int)
  · exact ⟨false, by simp [h1, h2, h3, h4, jn], no fun h => by have := h.nz; omega⟩
  by_cases h5 : 200 < (y.length : Int)
  · exact ⟨false, by simp [h1, h2, h3, h4, h5, jn], no fun h => by have := h.ny; omega⟩
  simp only [if_neg h1, jn_inl, decide_eq_false h2, decide_eq_false h3, decide_eq_false h4, decide_eq_false h5, Bool.false_eq_true, if_false]
  rcases edges_iff n x y z (by omega) (by omega) with ⟨v, hr, hm, he⟩ | ⟨hr, he⟩
  · rw [hr, jn_inl]
    rcases props_iff n x y z (by omega) hs with ⟨hp, hpp⟩ | ⟨hp, hpp⟩
    · rw [hp, jn_inl]
      obtain ⟨b1, hb1, c1⟩ := names_iff x (by omega)
      obtain ⟨b2, hb2, c2⟩ := rises_edge_iff y (by omega)
      obtain ⟨b3, hb3, c3⟩ := rises_str_iff x (by omega)
      obtain ⟨b4, hb4, c4⟩ := rises_prop_iff z (by omega)
      have h0 : (0 : Int) ≤ (x.length : Int) := by omega
      have hu : (W8 v = W8 (full8 x.length)) ↔ UsedS x.length y := ⟨fun h => (mask_used hm (by omega) he).1 (W8.inj h), fun h => by rw [(mask_used hm (by omega) he).2 h]⟩
      simp only [hb1, hb2, hb3, hb4, Option.bind_some, if_pos h0, full_run (show x.length ≤ 8 by omega)]
      by_cases k1 : b1 = true
      · subst k1
        exact ⟨false, by simp [jn], no fun h => c1.1 rfl h.nm⟩
      · have k1' : b1 = false := by simpa using k1
        subst k1'
        have hnm : ∀ s ∈ x, NameS s := Classical.not_not.1 fun h => by have := c1.2 h; cases this
        by_cases k2 : W8 v = W8 (full8 x.length)
        · cases b2 with
          | false => exact ⟨false, by simp [jn, k2], no fun h => by have := c2.2 h.re; cases this⟩
          | true =>
            cases b3 with
            | false => exact ⟨false, by simp [jn, k2], no fun h => by have := c3.2 h.rx; cases this⟩
            | true =>
              cases b4 with
              | false => exact ⟨false, by simp [jn, k2], no fun h => by have := c4.2 h.rz; cases this⟩
              | true => exact ⟨true, by simp [jn, k2], by simp only [true_iff]; exact ⟨by omega, by omega, by omega, by omega, by omega, he, hpp, hnm, hu.1 k2, c2.1 rfl, c3.1 rfl, c4.1 rfl⟩⟩
        · exact ⟨false, by simp [jn, k2], no fun h => k2 (hu.2 h.us)⟩
    · rw [hp]
      exact ⟨false, rfl, no fun h => hpp h.pr⟩
  · rw [hr]
    exact ⟨false, rfl, no fun h => he h.ed⟩
end Go.Bw
