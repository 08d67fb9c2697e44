/- CyclesTurned: the steps turned round, and the parts of both graphs. Conditions: none. -/
import Derived.Test.YtmkidaijgdgcjaaBwShown
import Derived.Test.YtmkidaijgdgcjaaBwTurn
import Derived.Test.YtmkidaijgdgcjaaBwOpen
set_option linter.unusedVariables false
set_option linter.unusedSimpArgs false
set_option linter.unusedSectionVars false
namespace Go.Bw
open Go Go.RowKit Tj

theorem tot_take_succ {G : List (List Int)} {i : Int} (h0 : 0 ≤ i) (h1 : i < (G.length : Int)) : tot (G.take (i + 1).toNat) = tot (G.take i.toNat) + (gt G i).length := by
  rw [show (i + 1).toNat = i.toNat + 1 from by omega, List.take_add_one, gt_some h0 h1, tot_app]
  simp [tot_cons, tot_nil]
theorem tot_take_le (G : List (List Int)) (k : Nat) : tot (G.take k) ≤ tot G := by
  have := tot_app (G.take k) (G.drop k)
  rw [List.take_append_drop] at this
  have := tot_nonneg (G.drop k)
  omega
section
variable {G : List (List Int)}
theorem t4_run {T : List (List Int)} {i B : Int} (hi : Tj.Ok G i) (hl : T.length = G.length) (hB : ∀ m, Tj.Ok G m → ((gt T m).length : Int) ≤ B) (hB' : B + (gt G i).length ≤ 1048576) (hB0 : 0 ≤ B) :
    ∃ T', bailifflaw15_CyclesTurned.l4 G i T 0 = some (.inl T') ∧ T'.length = G.length ∧ (∀ m, Tj.Ok G m → ((gt T' m).length : Int) ≤ B + (gt G i).length) ∧ ∀ m, Tj.Ok G m → ∀ x, x ∈ gt T' m ↔ x ∈ gt T m ∨ (x = i ∧ m ∈ gt G i) := by
  obtain ⟨r, hr, T', rfl, h1, h2, h3⟩ := iter_meas (body := fun t_ : (List (List Int)) × Int => bailifflaw15_CyclesTurned.l4b G i t_.1 t_.2)
    (fun s => 0 ≤ s.2 ∧ s.2 ≤ ((gt G i).length : Int) ∧ s.1.length = G.length ∧ (∀ m, Tj.Ok G m → ((gt s.1 m).length : Int) ≤ B + s.2) ∧ ∀ m, Tj.Ok G m → ∀ x, x ∈ gt s.1 m ↔ x ∈ gt T m ∨ (x = i ∧ m ∈ (gt G i).take s.2.toNat))
    (fun r => ∃ T', r = .inl T' ∧ T'.length = G.length ∧ (∀ m, Tj.Ok G m → ((gt T' m).length : Int) ≤ B + (gt G i).length) ∧ ∀ m, Tj.Ok G m → ∀ x, x ∈ gt T' m ↔ x ∈ gt T m ∨ (x = i ∧ m ∈ gt G i)) (fun s => ((gt G i).length - s.2).toNat)
    (fun ⟨T1, k⟩ ⟨a0, a1, a2, a3, a4⟩ => by
      dsimp only at a0 a1 a2 a3 a4 ⊢
      unfold bailifflaw15_CyclesTurned.l4b
      rw [if_pos (show (0 : Int) ≤ i ∧ i < (G.length : Int) from hi)]
      by_cases hk : k < ((gt G i).length : Int)
      · right
        have htake : ∀ m, m ∈ (gt G i).take (k + 1).toNat ↔ m ∈ (gt G i).take k.toNat ∨ m = gt (gt G i) k := fun m => by
          rw [show (k + 1).toNat = k.toNat + 1 from by omega, List.take_add_one, gt_some a0 hk]
          simp
        rw [if_pos hk, if_pos ⟨a0, hk⟩, wrap64 (x := k + 1) (by omega) (by omega)]
        by_cases hm : Tj.Ok G (gt (gt G i) k)
        · have hml := a3 _ hm
          rw [if_pos hm.1, jn_inl, if_pos (decide_eq_true hm.2), if_pos ⟨hm.1, by simp; exact hm.2⟩, if_pos (by simp; omega), jn_inl]
          refine ⟨_, rfl, ⟨by dsimp only; omega, by dsimp only; omega, (st_len _ _ _).trans a2, fun m hmo => ?_, fun m hmo x => ?_⟩, by dsimp only; omega⟩
          · dsimp only
            rw [gt_st hm.1 (by rw [a2]; exact hm.2) hmo.1]
            split
            · simp; omega
            · have := a3 m hmo; omega
          · dsimp only
            rw [gt_st hm.1 (by rw [a2]; exact hm.2) hmo.1, htake]
            split
            · rename_i hme
              subst hme
              simp only [List.mem_append, List.mem_singleton, a4 _ hmo x]
              constructor
              · rintro ((h | ⟨h, h'⟩) | h)
                · exact .inl h
                · exact .inr ⟨h, .inl h'⟩
                · exact .inr ⟨h, .inr trivial⟩
              · rintro (h | ⟨h, h' | h'⟩)
                · exact .inl (.inl h)
                · exact .inl (.inr ⟨h, h'⟩)
                · exact .inr h
            · rename_i hme
              rw [a4 m hmo x]
              constructor
              · rintro (h | ⟨h, h'⟩)
                · exact .inl h
                · exact .inr ⟨h, .inl h'⟩
              · rintro (h | ⟨h, h' | h'⟩)
                · exact .inl h
                · exact .inr ⟨h, h'⟩
                · exact absurd h' hme
        · have hfl : (if 0 ≤ gt (gt G i) k then some (.inl (decide (gt (gt G i) k < (G.length : Int)))) else some (.inl false) : Option (Bool ⊕ (List (List Int) × Int) ⊕ (List (List Int)) ⊕ (List (List Int) × Int) ⊕ (List (List Int)) ⊕ Bool)) = some (.inl false) := by
            by_cases h0 : 0 ≤ gt (gt G i) k
            · rw [if_pos h0, decide_eq_false (fun h => hm ⟨h0, h⟩)]
            · rw [if_neg h0]
          have hfl2 : ∀ (f : Bool → Option ((List (List Int)) ⊕ ((List (List Int) × Int) ⊕ ((List (List Int)) ⊕ ((List (List Int) × Int) ⊕ ((List (List Int)) ⊕ Bool)))))), jn (if 0 ≤ gt (gt G i) k then some (.inl (decide (gt (gt G i) k < (G.length : Int)))) else some (.inl false)) f = f false := fun f => by
            by_cases h0 : 0 ≤ gt (gt G i) k
            · rw [if_pos h0, jn_inl, decide_eq_false (fun h => hm ⟨h0, h⟩)]
            · rw [if_neg h0, jn_inl]
          rw [hfl2, if_neg (by simp), jn_inl]
          refine ⟨_, rfl, ⟨by dsimp only; omega, by dsimp only; omega, a2, fun m hmo => by dsimp only; have := a3 m hmo; omega, fun m hmo x => ?_⟩, by dsimp only; omega⟩
          dsimp only
          rw [a4 m hmo x, htake]
          constructor
          · rintro (h | ⟨h, h'⟩)
            · exact .inl h
            · exact .inr ⟨h, .inl h'⟩
          · rintro (h | ⟨h, h' | h'⟩)
            · exact .inl h
            · exact .inr ⟨h, h'⟩
            · subst h'; exact absurd hmo hm
      · left
        rw [if_neg hk]
        refine ⟨_, rfl, T1, rfl, a2, fun m hmo => by have := a3 m hmo; omega, fun m hmo x => ?_⟩
        rw [a4 m hmo x, List.take_of_length_le (by omega)]) (T, 0) ⟨Int.le_refl _, by dsimp only; omega, hl, fun m hm => by dsimp only; have := hB m hm; omega, fun m hm x => by simp⟩
  exact ⟨T', hr, h1, h2, h3⟩
theorem t0_run (hN : (G.length : Int) ≤ 1099511627776) (hT : tot G ≤ 1048576) :
    ∃ T, bailifflaw15_CyclesTurned.l0 G (List.replicate (G.length : Int).toNat ([] : List Int)) 0 = some (.inl T) ∧ T.length = G.length ∧ (∀ m, Tj.Ok G m → ((gt T m).length : Int) ≤ 1048576) ∧ ∀ m, Tj.Ok G m → ∀ x, x ∈ gt T m ↔ Tj.Ok G x ∧ m ∈ gt G x := by
  obtain ⟨r, hr, T', rfl, h1, h2, h3⟩ := iter_meas (body := fun t_ : (List (List Int)) × Int => bailifflaw15_CyclesTurned.l0b G t_.1 t_.2)
    (fun s => 0 ≤ s.2 ∧ s.2 ≤ (G.length : Int) ∧ s.1.length = G.length ∧ (∀ m, Tj.Ok G m → ((gt s.1 m).length : Int) ≤ tot (G.take s.2.toNat)) ∧ ∀ m, Tj.Ok G m → ∀ x, x ∈ gt s.1 m ↔ 0 ≤ x ∧ x < s.2 ∧ m ∈ gt G x)
    (fun r => ∃ T', r = .inl T' ∧ T'.length = G.length ∧ (∀ m, Tj.Ok G m → ((gt T' m).length : Int) ≤ 1048576) ∧ ∀ m, Tj.Ok G m → ∀ x, x ∈ gt T' m ↔ Tj.Ok G x ∧ m ∈ gt G x) (fun s => (G.length - s.2).toNat)
    (fun ⟨T1, i⟩ ⟨a0, a1, a2, a3, a4⟩ => by
      dsimp only at a0 a1 a2 a3 a4 ⊢
      unfold bailifflaw15_CyclesTurned.l0b
      by_cases hi : i < (G.length : Int)
      · right
        have e1 := tot_take_succ a0 hi
        have e2 := tot_take_le G (i + 1).toNat
        obtain ⟨T2, b0, b1, b2, b3⟩ := t4_run (G := G) (T := T1) (i := i) ⟨a0, hi⟩ a2 a3 (by omega) (tot_nonneg _)
        rw [if_pos hi, b0, jn_inl, wrap64 (x := i + 1) (by omega) (by omega)]
        refine ⟨_, rfl, ⟨by dsimp only; omega, by dsimp only; omega, b1, fun m hm => by dsimp only; have := b2 m hm; omega, fun m hm x => ?_⟩, by dsimp only; omega⟩
        dsimp only
        rw [b3 m hm x, a4 m hm x]
        constructor
        · rintro (⟨c0, c1, c2⟩ | ⟨rfl, c⟩)
          · exact ⟨c0, by omega, c2⟩
          · exact ⟨a0, by omega, c⟩
        · rintro ⟨c0, c1, c2⟩
          by_cases hx : x = i
          · exact .inr ⟨hx, hx ▸ c2⟩
          · exact .inl ⟨c0, by omega, c2⟩
      · left
        rw [if_neg hi]
        have : i = G.length := by omega
        subst this
        refine ⟨_, rfl, T1, rfl, a2, fun m hm => ?_, fun m hm x => ?_⟩
        · have := a3 m hm
          have := tot_take_le G (G.length : Int).toNat
          omega
        · rw [a4 m hm x]
          constructor
          · rintro ⟨c0, c1, c2⟩; exact ⟨⟨c0, c1⟩, c2⟩
          · rintro ⟨⟨c0, c1⟩, c2⟩; exact ⟨c0, c1, c2⟩) (List.replicate (G.length : Int).toNat ([] : List Int), 0) ⟨Int.le_refl _, by dsimp only; omega, by simp, fun m hm => by
            dsimp only
            have : gt (List.replicate (G.length : Int).toNat ([] : List Int)) m = [] := by unfold gt; rw [List.getD_eq_getElem?_getD, List.getElem?_replicate]; split <;> rfl
            rw [this]; simp [tot_nil], fun m hm x => by
            dsimp only
            have : gt (List.replicate (G.length : Int).toNat ([] : List Int)) m = [] := by unfold gt; rw [List.getD_eq_getElem?_getD, List.getElem?_replicate]; split <;> rfl
            rw [this]; simp; omega⟩
  exact ⟨T', hr, h1, h2, h3⟩
/-- Heads rise, and are all different. -/
theorem Parts.heads {may : Int → Bool} {out : List (List Int)} (hP : Parts G may out) : (byHead out).Pairwise (fun a b => gt a 0 < gt b 0) := by
  have hs : (byHead out).Pairwise (fun a b => decide (gt a 0 ≤ gt b 0) = true) := List.pairwise_mergeSort (fun a b c h1 h2 => by simp at *; omega) (fun a b => by simp; omega) _
  have hd : (byHead out).Pairwise (fun a b => ∀ x ∈ a, x ∉ b) := by
    refine (List.mergeSort_perm out _).symm.pairwise hP.dis ?_
    intro a b h x hx hb
    exact h x hb hx
  have hne : ∀ p ∈ byHead out, gt p 0 ∈ p := fun p hp => by
    have := hP.ne p (mem_byHead.1 hp)
    exact gt_mem (Int.le_refl _) (by have := List.length_pos_iff.2 this; omega)
  refine (hs.and hd).imp_of_mem fun {a b} ha hb ⟨h1, h2⟩ => ?_
  have h1 := of_decide_eq_true h1
  have := h2 _ (hne a ha)
  have h3 : gt a 0 ≠ gt b 0 := fun e => this (e ▸ hne b hb)
  omega
/-- The parts are what the classes make them. -/
theorem Parts.same {G' : List (List Int)} {may may' : Int → Bool} {out out' : List (List Int)} (hP : Parts G may out) (hP' : Parts G' may' out')
    (hok : ∀ x, Tj.Ok G x ∧ may x = true ↔ Tj.Ok G' x ∧ may' x = true) (hm : ∀ x y, Tj.Ok G x → may x = true → ((Rch G may x y ∧ Rch G may y x) ↔ (Rch G' may' x y ∧ Rch G' may' y x))) : byHead out = byHead out' := by
  refine hP.byHead_eq hP'.heads fun p => ?_
  rw [mem_byHead]
  have key : ∀ p ∈ out, ∀ x ∈ p, ∀ p' ∈ out', x ∈ p' → p = p' := fun p hp x hx p' hp' hx' => by
    have := hP.el p hp x hx
    exact asc_ext (hP.asc p hp) (hP'.asc p' hp') fun z => by rw [hP.cls p hp x hx z, hP'.cls p' hp' x hx' z, hm x z this.1 this.2]
  constructor
  · intro hp
    obtain ⟨x, hx⟩ := List.exists_mem_of_ne_nil p (hP.ne p hp)
    have h1 := (hok x).1 (hP.el p hp x hx)
    obtain ⟨p', hp', hx'⟩ := hP'.all x h1.1 h1.2
    rw [key p hp x hx p' hp' hx']
    exact hp'
  · intro hp'
    obtain ⟨x, hx'⟩ := List.exists_mem_of_ne_nil p (hP'.ne p hp')
    have h1 := (hok x).2 (hP'.el p hp' x hx')
    obtain ⟨q, hq, hx⟩ := hP.all x h1.1 h1.2
    rw [← key q hq x hx p hp' hx']
    exact hq
theorem turned_rch {T : List (List Int)} (hl : T.length = G.length) (hT : ∀ m, Tj.Ok G m → ∀ x, x ∈ gt T m ↔ Tj.Ok G x ∧ m ∈ gt G x) {x y : Int} (hx : Tj.Ok G x) : Rch T (fun _ => true) x y ↔ Tj.Ok G y ∧ Rch G (fun _ => true) y x := by
  have hok : ∀ z, Tj.Ok T z ↔ Tj.Ok G z := fun z => by unfold Tj.Ok; rw [hl]
  constructor
  · intro h
    induction h with
    | refl => exact ⟨hx, .refl _⟩
    | @step u v w e _ ih =>
      have hv := (hok v).1 e.2.1
      obtain ⟨a, b⟩ := ih hv
      have := (hT u hx v).1 e.1
      exact ⟨a, b.trans (.one ⟨this.2, hx, rfl⟩)⟩
  · rintro ⟨hy, h⟩
    induction h with
    | refl => exact .refl _
    | @step u v w e _ ih =>
      exact (ih hx e.2.1).trans (.one ⟨(hT v e.2.1 u).2 ⟨hy, e.1⟩, (hok u).2 hy, rfl⟩)
end
end Go.Bw
