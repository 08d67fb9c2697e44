/- CyclesParts' model comes to true, where there are not too many steps. Conditions: none. -/
import Derived.Test.YtmkidaijgdgcjaaBwEndCBad
import Derived.Test.YtmkidaijgdgcjaaBwPart
set_option linter.unusedVariables false
set_option linter.unusedSimpArgs false
set_option linter.unusedSectionVars false
namespace Go.Bw
open Go Go.RowKit Tj

abbrev TT : Int → Bool := fun _ => true
section
variable {G : List (List Int)}
/-- There and back. -/
def Mu (G : List (List Int)) (x y : Int) : Prop := Rch G TT x y ∧ Rch G TT y x
theorem Mu.symm {x y : Int} (h : Mu G x y) : Mu G y x := ⟨h.2, h.1⟩
theorem Mu.trans {x y z : Int} (h : Mu G x y) (k : Mu G y z) : Mu G x z := ⟨h.1.trans k.1, k.2.trans h.2⟩
theorem rch_ok {x y : Int} (h : Rch G TT x y) (hx : Tj.Ok G x) : Tj.Ok G y := by
  induction h with
  | refl => exact hx
  | step e _ ih => exact ih e.2.1
theorem rc_iff {x y : Int} (hne : x ≠ y) : Rc G TT x y ↔ Rch G TT x y := by
  constructor
  · rintro ⟨z, e, r⟩; exact .step e r
  · intro h; exact rch_first h hne
theorem mu_iff {x y : Int} : (y = x ∨ (Rc G TT x y ∧ Rc G TT y x)) ↔ Mu G x y := by
  by_cases h : y = x
  · subst h; exact ⟨fun _ => ⟨.refl _, .refl _⟩, fun _ => .inl rfl⟩
  · rw [rc_iff (fun e => h e.symm), rc_iff h]
    exact ⟨fun k => k.elim (fun e => absurd e h) id, fun k => .inr k⟩
theorem comp0_run (hN : (G.length : Int) ≤ 1099511627776) : ∃ ok, bailiffref15_Components.l0 G (List.replicate (G.length : Int).toNat (false : Bool)) 0 = some (.inl ok) ∧ ok.length = G.length ∧ ∀ m, Tj.Ok G m → gt ok m = true := by
  obtain ⟨r, hr, ok, rfl, h1, h2⟩ := iter_meas (body := fun t_ : (List Bool) × Int => bailiffref15_Components.l0b G t_.1 t_.2)
    (fun s => 0 ≤ s.2 ∧ s.2 ≤ (G.length : Int) ∧ s.1.length = G.length ∧ ∀ m, 0 ≤ m → m < s.2 → gt s.1 m = true)
    (fun r => ∃ ok, r = .inl ok ∧ ok.length = G.length ∧ ∀ m, Tj.Ok G m → gt ok m = true) (fun s => (G.length - s.2).toNat)
    (fun ⟨ok, i⟩ ⟨a0, a1, a2, a3⟩ => by
      dsimp only at a0 a1 a2 a3 ⊢
      unfold bailiffref15_Components.l0b
      by_cases hi : i < (G.length : Int)
      · right
        rw [if_pos hi, if_pos (by simp; omega), wrap64 (x := i + 1) (by omega) (by omega)]
        refine ⟨_, rfl, ⟨by dsimp only; omega, by dsimp only; omega, by dsimp only; rw [st_len]; exact a2, fun m hm0 hm1 => ?_⟩, by dsimp only; omega⟩
        dsimp only at hm1 ⊢
        rw [gt_st a0 (by omega) hm0]
        by_cases he : m = i
        · rw [if_pos he]
        · rw [if_neg he]; exact a3 m hm0 (by omega)
      · left
        rw [if_neg hi]
        exact ⟨_, rfl, ok, rfl, a2, fun m hm => a3 m hm.1 (by have := hm.2; omega)⟩) (List.replicate (G.length : Int).toNat false, 0) ⟨Int.le_refl _, by dsimp only; omega, by simp, fun m h0 h1 => by dsimp only at h1; omega⟩
  exact ⟨ok, hr, h1, h2⟩
/-- The table of who comes to whom. -/
structure Tab (G : List (List Int)) (k : Int) (T : List (List Bool)) : Prop where
  len : (T.length : Int) = k
  row : ∀ i, 0 ≤ i → i < k → (gt T i).length = G.length ∧ ∀ m, Tj.Ok G m → (gt (gt T i) m = true ↔ Rc G TT i m)
theorem comp1_run {ok : List Bool} (hN : (G.length : Int) ≤ 1048576) (hrow : ∀ r ∈ G, (r.length : Int) ≤ 9223372036854775807) (hol : ok.length = G.length) (hok : ∀ m, Tj.Ok G m → gt ok m = true) :
    ∃ T, bailiffref15_Components.l1 G ok ([] : List (List Bool)) 0 = some (.inl T) ∧ Tab G G.length T := by
  obtain ⟨r, hr, T, rfl, h1⟩ := iter_meas (body := fun t_ : (List (List Bool)) × Int => bailiffref15_Components.l1b G ok t_.1 t_.2)
    (fun s => 0 ≤ s.2 ∧ s.2 ≤ (G.length : Int) ∧ Tab G s.2 s.1)
    (fun r => ∃ T, r = .inl T ∧ Tab G G.length T) (fun s => (G.length - s.2).toNat)
    (fun ⟨T, i⟩ ⟨a0, a1, a2⟩ => by
      dsimp only at a0 a1 a2 ⊢
      unfold bailiffref15_Components.l1b
      by_cases hi : i < (G.length : Int)
      · right
        obtain ⟨inn, b0, b1, b2⟩ := reach_run (G := G) (may := TT) (fr := i) (ok := ok) (by omega) hrow hok hol ⟨a0, hi⟩
        have hl := a2.len
        rw [if_pos hi, b0]
        simp only [Option.bind_some]
        rw [if_pos (by omega), wrap64 (x := i + 1) (by omega) (by omega)]
        refine ⟨_, rfl, ⟨by dsimp only; omega, by dsimp only; omega, ⟨by simp; omega, fun m hm0 hm1 => ?_⟩⟩, by dsimp only; omega⟩
        dsimp only at hm1 ⊢
        by_cases he : m = i
        · subst he
          have : gt (T ++ [inn]) m = inn := by rw [← hl]; exact gt_last
          rw [this]
          exact ⟨b1, b2⟩
        · rw [gt_app_left hm0 (by omega)]
          exact a2.row m hm0 (by omega)
      · left
        rw [if_neg hi]
        refine ⟨_, rfl, T, rfl, ?_⟩
        rw [show (G.length : Int) = i from by omega]
        exact a2) ([], 0) ⟨Int.le_refl _, by dsimp only; omega, ⟨by simp, fun m h0 h1 => by dsimp only at h1; omega⟩⟩
  exact ⟨T, hr, h1⟩
/-- One part, and the flags of its nodes. -/
theorem comp3_run {T : List (List Bool)} (hN : (G.length : Int) ≤ 1048576) (hT : Tab G G.length T) {i : Int} (hi : Tj.Ok G i) {d0 : List Bool} (hd : d0.length = G.length) :
    ∃ l d, bailiffref15_Components.l3 G T i ([] : List Int) d0 i = some (.inl (l, d)) ∧ l.Pairwise (· < ·) ∧ (∀ y, y ∈ l ↔ i ≤ y ∧ y < (G.length : Int) ∧ Mu G i y) ∧ d.length = G.length ∧ ∀ y, Tj.Ok G y → (gt d y = true ↔ gt d0 y = true ∨ y ∈ l) := by
  obtain ⟨hi0, hi1⟩ := hi
  obtain ⟨r, hr, l, d, rfl, h1, h2, h3, h4⟩ := iter_meas (body := fun t_ : (List Int) × (List Bool) × Int => bailiffref15_Components.l3b G T i t_.1 t_.2.1 t_.2.2)
    (fun s => i ≤ s.2.2 ∧ s.2.2 ≤ (G.length : Int) ∧ s.1.Pairwise (· < ·) ∧ (∀ y, y ∈ s.1 ↔ i ≤ y ∧ y < s.2.2 ∧ Mu G i y) ∧ s.2.1.length = G.length ∧ (∀ y, Tj.Ok G y → (gt s.2.1 y = true ↔ gt d0 y = true ∨ y ∈ s.1)) ∧ (s.1.length : Int) ≤ s.2.2 - i)
    (fun r => ∃ l d, r = .inl (l, d) ∧ l.Pairwise (· < ·) ∧ (∀ y, y ∈ l ↔ i ≤ y ∧ y < (G.length : Int) ∧ Mu G i y) ∧ d.length = G.length ∧ ∀ y, Tj.Ok G y → (gt d y = true ↔ gt d0 y = true ∨ y ∈ l)) (fun s => (G.length - s.2.2).toNat)
    (fun ⟨l, d, k⟩ ⟨a0, a1, a2, a3, a4, a5, a6⟩ => by
      dsimp only at a0 a1 a2 a3 a4 a5 a6 ⊢
      unfold bailiffref15_Components.l3b
      by_cases hk : k < (G.length : Int)
      · right
        have hlT := hT.len
        obtain ⟨c1, c2⟩ := hT.row i hi0 hi1
        obtain ⟨c3, c4⟩ := hT.row k (by omega) hk
        -- the test comes to whether it is of the part
        have htest : (jn (if k = i then (some (.inl true) : Option (Bool ⊕ (((List Bool) × (List Int)) ⊕ (((List Int) × (List Bool) × Int) ⊕ (((List Int) × (List Bool)) ⊕ (((List (List Int)) × (List Bool)) ⊕ (((List (List Int)) × (List Bool) × Int) ⊕ (((List (List Int)) × (List Bool)) ⊕ ((List (List Int)))))))))))
            else if (0 : Int) ≤ i ∧ i < (T.length : Int) then
              if (0 : Int) ≤ k ∧ k < ((gt T i).length : Int) then
                jn (if gt (gt T i) k = true then
                    if (0 : Int) ≤ k ∧ k < (T.length : Int) then
                      if (0 : Int) ≤ i ∧ i < ((gt T k).length : Int) then some (.inl (true, gt (gt T k) i)) else none
                    else none
                  else some (.inl (false, false))) (fun (s_ : Bool × Bool) => some (.inl s_.2))
              else none
            else none) : (Bool → _) → _) = fun f => f (decide (k = i ∨ (gt (gt T i) k = true ∧ gt (gt T k) i = true))) := by
          funext f
          by_cases hki : k = i
          · rw [if_pos hki, jn_inl, decide_eq_true (.inl hki)]
          · rw [if_neg hki, if_pos ⟨hi0, by omega⟩, if_pos ⟨by omega, by omega⟩]
            by_cases h5 : gt (gt T i) k = true
            · rw [if_pos h5, if_pos ⟨by omega, by omega⟩, if_pos ⟨by omega, by omega⟩, jn_inl, jn_inl]
              congr 1
              rw [h5]
              cases gt (gt T k) i <;> simp [hki]
            · rw [if_neg h5, jn_inl, jn_inl, decide_eq_false (by simp [hki, h5])]
        have hmu : (k = i ∨ (gt (gt T i) k = true ∧ gt (gt T k) i = true)) ↔ Mu G i k := by
          rw [c2 k ⟨by omega, hk⟩, c4 i ⟨hi0, hi1⟩]
          exact mu_iff
        rw [if_pos hk, htest, wrap64 (x := k + 1) (by omega) (by omega)]
        dsimp only
        by_cases hm : Mu G i k
        · rw [decide_eq_true (hmu.2 hm), if_pos rfl, if_pos (by simp; omega), if_pos (by simp; omega), jn_inl]
          have hmem : ∀ y, y ∈ l ++ [k] ↔ i ≤ y ∧ y < k + 1 ∧ Mu G i y := fun y => by
            rw [List.mem_append, a3 y]
            simp only [List.mem_singleton]
            constructor
            · rintro (⟨e0, e1, e2⟩ | rfl)
              · exact ⟨e0, by omega, e2⟩
              · exact ⟨a0, by omega, hm⟩
            · rintro ⟨e0, e1, e2⟩
              by_cases hy : y = k
              · exact .inr hy
              · exact .inl ⟨e0, by omega, e2⟩
          refine ⟨_, rfl, ⟨by dsimp only; omega, by dsimp only; omega, ?_, hmem, by dsimp only; rw [st_len]; exact a4, fun y hy => ?_, by simp; omega⟩, by dsimp only; omega⟩
          · dsimp only
            rw [List.pairwise_append]
            refine ⟨a2, by simp, fun x hx z hz => ?_⟩
            simp at hz
            subst hz
            exact ((a3 x).1 hx).2.1
          · dsimp only
            rw [gt_st (by omega) (by omega) hy.1]
            by_cases hyk : y = k
            · subst hyk
              simp
            · rw [if_neg hyk, a5 y hy, List.mem_append]
              simp [hyk]
        · rw [decide_eq_false (fun e => hm (hmu.1 e)), if_neg (by simp), jn_inl]
          have hmem : ∀ y, y ∈ l ↔ i ≤ y ∧ y < k + 1 ∧ Mu G i y := fun y => by
            rw [a3 y]
            constructor
            · rintro ⟨e0, e1, e2⟩; exact ⟨e0, by omega, e2⟩
            · rintro ⟨e0, e1, e2⟩
              by_cases hy : y = k
              · subst hy; exact absurd e2 hm
              · exact ⟨e0, by omega, e2⟩
          exact ⟨_, rfl, ⟨by dsimp only; omega, by dsimp only; omega, a2, hmem, a4, a5, by dsimp only; omega⟩, by dsimp only; omega⟩
      · left
        rw [if_neg hk]
        refine ⟨_, rfl, l, d, rfl, a2, fun y => ?_, a4, a5⟩
        rw [a3 y, show k = (G.length : Int) from by omega]) (([] : List Int), d0, i) ⟨Int.le_refl _, by dsimp only; omega, List.Pairwise.nil, fun y => by simp; intro h1 h2; omega, hd, fun y hy => by simp, by simp⟩
  exact ⟨l, d, hr, h1, h2, h3, h4⟩
/-- The parts so far. -/
structure Sofar (G : List (List Int)) (i : Int) (L : List (List Int)) (d : List Bool) : Prop where
  len : d.length = G.length
  cnt : (L.length : Int) ≤ i
  heads : L.Pairwise (fun a b => gt a 0 < gt b 0)
  low : ∀ p ∈ L, gt p 0 < i
  ne : ∀ p ∈ L, p ≠ []
  asc : ∀ p ∈ L, p.Pairwise (· < ·)
  cls : ∀ p ∈ L, ∀ x ∈ p, Tj.Ok G x ∧ ∀ y, y ∈ p ↔ Mu G x y
  flag : ∀ x, Tj.Ok G x → (gt d x = true ↔ ∃ p ∈ L, x ∈ p)
  all : ∀ x, 0 ≤ x → x < i → gt d x = true
theorem comp2_run {T : List (List Bool)} (hN : (G.length : Int) ≤ 1048576) (hT : Tab G G.length T) :
    ∃ L d, bailiffref15_Components.l2 G T ([] : List (List Int)) (List.replicate (G.length : Int).toNat (false : Bool)) 0 = some (.inl (L, d)) ∧ Sofar G G.length L d := by
  obtain ⟨r, hr, L, d, rfl, h1⟩ := iter_meas (body := fun t_ : (List (List Int)) × (List Bool) × Int => bailiffref15_Components.l2b G T t_.1 t_.2.1 t_.2.2)
    (fun s => 0 ≤ s.2.2 ∧ s.2.2 ≤ (G.length : Int) ∧ Sofar G s.2.2 s.1 s.2.1)
    (fun r => ∃ L d, r = .inl (L, d) ∧ Sofar G G.length L d) (fun s => (G.length - s.2.2).toNat)
    (fun ⟨L, d, i⟩ ⟨a0, a1, a2⟩ => by
      dsimp only at a0 a1 a2 ⊢
      unfold bailiffref15_Components.l2b
      by_cases hi : i < (G.length : Int)
      · right
        rw [if_pos hi, if_pos (by simp; omega), wrap64 (x := i + 1) (by omega) (by omega)]
        by_cases hf : gt d i = true
        · rw [if_pos hf, jn_inl]
          refine ⟨_, rfl, ⟨by dsimp only; omega, by dsimp only; omega, ⟨a2.len, by have := a2.cnt; dsimp only; omega, a2.heads, fun p hp => by have := a2.low p hp; dsimp only; omega, a2.ne, a2.asc, a2.cls, a2.flag, fun x hx0 hx1 => ?_⟩⟩, by dsimp only; omega⟩
          by_cases hx : x = i
          · subst hx; exact hf
          · exact a2.all x hx0 (by dsimp only at hx1; omega)
        · obtain ⟨l, d', b0, b1, b2, b3, b4⟩ := comp3_run hN hT (i := i) ⟨a0, hi⟩ a2.len
          have hcnt := a2.cnt
          rw [if_neg hf, b0, jn_inl]
          dsimp only
          rw [if_pos (by omega), jn_inl]
          have hil : i ∈ l := (b2 i).2 ⟨Int.le_refl _, hi, .refl _, .refl _⟩
          have hln : l ≠ [] := List.ne_nil_of_mem hil
          have hh : gt l 0 ∈ l := gt_mem (Int.le_refl _) (by have := List.length_pos_iff.2 hln; omega)
          have hh0 : i ≤ gt l 0 := ((b2 _).1 hh).1
          have hh1 : gt l 0 = i := by
            have hp : 0 < l.length := List.length_pos_iff.2 hln
            obtain ⟨q, hq, hqe⟩ := List.getElem_of_mem hil
            have h0e : gt l 0 = l[0] := by
              have := gt_some (xs := l) (i := 0) (by omega) (by omega)
              rw [show (0 : Int).toNat = 0 from rfl, List.getElem?_eq_getElem hp] at this
              exact (Option.some.inj this).symm
            rw [List.pairwise_iff_getElem] at b1
            rcases Nat.eq_zero_or_pos q with e | e
            · subst e; omega
            · have := b1 0 q hp hq e
              omega
          have hmu : ∀ y, y ∈ l ↔ Mu G i y := fun y => by
            rw [b2 y]
            constructor
            · exact fun h => h.2.2
            · intro h
              have hy : Tj.Ok G y := rch_ok h.1 ⟨a0, hi⟩
              refine ⟨Int.not_lt.1 fun hlt => hf ?_, hy.2, h⟩
              obtain ⟨p, hp, hyp⟩ := (a2.flag y hy).1 (a2.all y hy.1 hlt)
              exact (a2.flag i ⟨a0, hi⟩).2 ⟨p, hp, ((a2.cls p hp y hyp).2 i).2 h.symm⟩
          refine ⟨_, rfl, ⟨by dsimp only; omega, by dsimp only; omega, ⟨b3, by simp; omega, ?_, fun p hp => ?_, fun p hp => ?_, fun p hp => ?_, fun p hp => ?_, fun x hx => ?_, fun x hx0 hx1 => ?_⟩⟩, by dsimp only; omega⟩
          · dsimp only
            rw [List.pairwise_append]
            refine ⟨a2.heads, by simp, fun p hp q hq => ?_⟩
            simp at hq
            subst hq
            have := a2.low p hp
            omega
          · rcases List.mem_append.1 hp with hp | hp
            · have := a2.low p hp; dsimp only; omega
            · simp at hp; subst hp; dsimp only; omega
          · rcases List.mem_append.1 hp with hp | hp
            · exact a2.ne p hp
            · simp at hp; subst hp; exact hln
          · rcases List.mem_append.1 hp with hp | hp
            · exact a2.asc p hp
            · simp at hp; subst hp; exact b1
          · rcases List.mem_append.1 hp with hp | hp
            · exact a2.cls p hp
            · simp at hp; subst hp
              intro x hx
              have hix := (hmu x).1 hx
              exact ⟨rch_ok hix.1 ⟨a0, hi⟩, fun y => (hmu y).trans ⟨fun h => hix.symm.trans h, fun h => hix.trans h⟩⟩
          · dsimp only
            rw [b4 x hx, a2.flag x hx]
            constructor
            · rintro (⟨p, hp, h⟩ | h)
              · exact ⟨p, List.mem_append.2 (.inl hp), h⟩
              · exact ⟨l, by simp, h⟩
            · rintro ⟨p, hp, h⟩
              rcases List.mem_append.1 hp with hp | hp
              · exact .inl ⟨p, hp, h⟩
              · simp at hp; subst hp; exact .inr h
          · dsimp only at hx1 ⊢
            by_cases hx : x = i
            · subst hx; exact (b4 x ⟨a0, hi⟩).2 (.inr hil)
            · exact (b4 x ⟨hx0, by omega⟩).2 (.inl (a2.all x hx0 (by omega)))
      · left
        rw [if_neg hi]
        refine ⟨_, rfl, L, d, rfl, ?_⟩
        rw [show (G.length : Int) = i from by omega]
        exact a2) (([] : List (List Int)), List.replicate (G.length : Int).toNat false, 0) ⟨Int.le_refl _, by dsimp only; omega, ⟨by simp, by simp, List.Pairwise.nil, fun p hp => (by cases hp), fun p hp => (by cases hp), fun p hp => (by cases hp), fun p hp => (by cases hp), (fun x hx => by
          have : gt (List.replicate (G.length : Int).toNat false) x = false := by
            have h2 := hx.2
            have := gt_mem (xs := List.replicate (G.length : Int).toNat false) hx.1 (by simp; omega)
            exact (List.mem_replicate.1 this).2
          show gt (List.replicate (G.length : Int).toNat false) x = true ↔ _
          rw [this]; simp), fun x h0 h1 => by dsimp only at h1; omega⟩⟩
  exact ⟨L, d, hr, h1⟩
theorem comp15_run (hN : (G.length : Int) ≤ 1048576) (hrow : ∀ r ∈ G, (r.length : Int) ≤ 9223372036854775807) {out : List (List Int)} (hP : Parts G TT out) : bailiffref15_Components.f G = some (byHead out) := by
  obtain ⟨ok, a0, a1, a2⟩ := comp0_run (G := G) (by omega)
  obtain ⟨T, b0, b1⟩ := comp1_run hN hrow a1 a2
  obtain ⟨L, d, c0, c1⟩ := comp2_run hN b1
  unfold bailiffref15_Components.f
  rw [if_pos ⟨by omega, by omega⟩, a0, jn_inl, b0, jn_inl, c0, jn_inl]
  have key : ∀ p ∈ out, ∀ x ∈ p, ∀ p' ∈ L, x ∈ p' → p = p' := fun p hp x hx p' hp' hx' =>
    asc_ext (hP.asc p hp) (c1.asc p' hp') fun z => by rw [hP.cls p hp x hx z, (c1.cls p' hp' x hx').2 z]; exact Iff.rfl
  have hall : ∀ x, Tj.Ok G x → ∃ p ∈ L, x ∈ p := fun x hx => (c1.flag x hx).1 (c1.all x hx.1 hx.2)
  rw [hP.byHead_eq c1.heads fun p => ?_]
  constructor
  · intro hp
    obtain ⟨x, hx⟩ := List.exists_mem_of_ne_nil p (hP.ne p hp)
    obtain ⟨p', hp', hx'⟩ := hall x (hP.el p hp x hx).1
    rw [key p hp x hx p' hp' hx']
    exact hp'
  · intro hp'
    obtain ⟨x, hx'⟩ := List.exists_mem_of_ne_nil p (c1.ne p hp')
    obtain ⟨q, hq, hx⟩ := hP.all x (c1.cls p hp' x hx').1 rfl
    rw [← key q hq x hx p hp' hx']
    exact hq
end
theorem len_byHead (out : List (List Int)) : (byHead out).length = out.length := List.length_mergeSort _
theorem part_len {G out : List (List Int)} (hP : Parts G TT out) {p : List Int} (hp : p ∈ out) : (p.length : Int) ≤ G.length := by
  have := rising_len (xs := p) (a := -1) (c := (G.length : Int) - 1) (hP.asc p hp) (fun x hx => by have h := (hP.el p hp x hx).1; have h1 := h.1; have h2 := h.2; omega) (by omega)
  omega
section
variable {L : List (List Int)}
/-- The numbers are written over. -/
theorem over2_run {o : List (Option (List Int))} {i : Int} {x0 : List Int} (hx : x0 = ((gt o i).getD []) ++ ([5] : List Int)) (hl : (x0.length : Int) ≤ 1048576) : ∃ z, bailifflaw15_CyclesParts.l2 o i x0 0 = some (.inl z) := by
  obtain ⟨r, hr, z, rfl⟩ := iter_meas (body := fun t_ : (List Int) × Int => bailifflaw15_CyclesParts.l2b o i t_.1 t_.2)
    (fun s => 0 ≤ s.2 ∧ s.2 ≤ (x0.length : Int)) (fun r => ∃ z, r = .inl z) (fun s => (x0.length - s.2).toNat)
    (fun ⟨y, k⟩ ⟨a0, a1⟩ => by
      dsimp only at a0 a1 ⊢
      unfold bailifflaw15_CyclesParts.l2b
      rw [← hx]
      by_cases hk : k < (x0.length : Int)
      · right
        rw [if_pos hk, if_pos ⟨a0, hk⟩, wrap64 (x := k + 1) (by omega) (by omega)]
        exact ⟨_, rfl, ⟨by dsimp only; omega, by dsimp only; omega⟩, by dsimp only; omega⟩
      · left
        rw [if_neg hk]
        exact ⟨_, rfl, _, rfl⟩) (x0, 0) ⟨Int.le_refl _, by dsimp only; omega⟩
  exact ⟨z, hr⟩
theorem over3_run {o : List (Option (List Int))} {i : Int} {x0 : List Int} (hx : x0 = ((gt o i).getD []) ++ ([5] : List Int)) (hl : (x0.length : Int) ≤ 1048576) : ∃ z, bailifflaw15_CyclesParts.l3 o i x0 0 = some (.inl z) := by
  obtain ⟨r, hr, z, rfl⟩ := iter_meas (body := fun t_ : (List Int) × Int => bailifflaw15_CyclesParts.l3b o i t_.1 t_.2)
    (fun s => 0 ≤ s.2 ∧ s.2 ≤ (x0.length : Int)) (fun r => ∃ z, r = .inl z) (fun s => (x0.length - s.2).toNat)
    (fun ⟨y, k⟩ ⟨a0, a1⟩ => by
      dsimp only at a0 a1 ⊢
      unfold bailifflaw15_CyclesParts.l3b
      rw [← hx]
      by_cases hk : k < (x0.length : Int)
      · right
        rw [if_pos hk, if_pos ⟨a0, hk⟩, wrap64 (x := k + 1) (by omega) (by omega)]
        exact ⟨_, rfl, ⟨by dsimp only; omega, by dsimp only; omega⟩, by dsimp only; omega⟩
      · left
        rw [if_neg hk]
        exact ⟨_, rfl, _, rfl⟩) (x0, 0) ⟨Int.le_refl _, by dsimp only; omega⟩
  exact ⟨z, hr⟩
def Left (L : List (List Int)) (s : List (Option (List Int)) × Int) : Prop := 0 ≤ s.2 ∧ s.2 ≤ (L.length : Int) ∧ s.1.length = L.length ∧ ∀ j, s.2 ≤ j → j < (L.length : Int) → gt s.1 j = some (gt L j)
theorem Left.first : Left L (L.map some, 0) := ⟨Int.le_refl _, by dsimp only; omega, by simp, fun j h0 h1 => by
  have := gt_some (xs := L) (i := j) h0 h1
  show (L.map some).getD j.toNat default = _
  rw [List.getD_eq_getElem?_getD, List.getElem?_map, this]
  rfl⟩
theorem Left.next {o : List (Option (List Int))} {i : Int} (h : Left L (o, i)) (hi : i < (L.length : Int)) : Left L (st o i none, i + 1) := by
  obtain ⟨a0, a1, a2, a3⟩ := h
  dsimp only at a0 a1 a2 a3
  refine ⟨by dsimp only; omega, by dsimp only; omega, by dsimp only; rw [st_len]; exact a2, fun j h0 h1 => ?_⟩
  dsimp only at h0 ⊢
  rw [gt_st a0 (by omega) (by omega), if_neg (by omega)]
  exact a3 j (by omega) h1
theorem parts1_run (hL : (L.length : Int) ≤ 1048576) (hp : ∀ p ∈ L, (p.length : Int) ≤ 1048575) : ∃ z, bailifflaw15_CyclesParts.l1 L L (L.map some) 0 = some (.inl z) := by
  obtain ⟨r, hr, z, rfl⟩ := iter_meas (body := fun t_ : (List (Option (List Int))) × Int => bailifflaw15_CyclesParts.l1b L L t_.1 t_.2) (Left L) (fun r => ∃ z, r = .inl z) (fun s => (L.length - s.2).toNat)
    (fun ⟨o, i⟩ h => by
      have ⟨a0, a1, a2, a3⟩ := h
      dsimp only at a0 a1 a2 a3 ⊢
      unfold bailifflaw15_CyclesParts.l1b
      by_cases hi : i < (L.length : Int)
      · right
        have hg := a3 i (Int.le_refl _) hi
        have hpl := hp _ (gt_mem a0 hi)
        rw [if_pos hi, if_pos ⟨a0, hi⟩, if_pos (by rw [hg]; rfl), if_pos ⟨a0, hi⟩, hg]
        simp only [Option.getD_some]
        rw [same_run (by omega)]
        simp only [Option.bind_some]
        obtain ⟨z, hz⟩ := over2_run (o := o) (i := i) (x0 := gt L i ++ ([5] : List Int)) (by rw [hg]; rfl) (by simp; omega)
        rw [if_pos (by simp), if_pos (by simp; omega), hz, jn_inl, wrap64 (x := i + 1) (by omega) (by omega)]
        exact ⟨_, rfl, h.next hi, by dsimp only; omega⟩
      · left
        rw [if_neg hi]
        exact ⟨_, rfl, _, rfl⟩) (L.map some, 0) Left.first
  exact ⟨z, hr⟩
theorem parts0_run (hL : (L.length : Int) ≤ 1048576) (hp : ∀ p ∈ L, (p.length : Int) ≤ 1048575) : ∃ z, bailifflaw15_CyclesParts.l0 L L (L.map some) 0 = some (.inl z) := by
  obtain ⟨r, hr, z, rfl⟩ := iter_meas (body := fun t_ : (List (Option (List Int))) × Int => bailifflaw15_CyclesParts.l0b L L t_.1 t_.2) (Left L) (fun r => ∃ z, r = .inl z) (fun s => (L.length - s.2).toNat)
    (fun ⟨o, i⟩ h => by
      have ⟨a0, a1, a2, a3⟩ := h
      dsimp only at a0 a1 a2 a3 ⊢
      unfold bailifflaw15_CyclesParts.l0b
      by_cases hi : i < (L.length : Int)
      · right
        have hg := a3 i (Int.le_refl _) hi
        have hpl := hp _ (gt_mem a0 hi)
        rw [if_pos hi, if_pos ⟨a0, hi⟩, if_pos (by rw [hg]; rfl), if_pos ⟨a0, hi⟩, hg]
        simp only [Option.getD_some]
        rw [same_run (by omega)]
        simp only [Option.bind_some]
        obtain ⟨z, hz⟩ := over3_run (o := o) (i := i) (x0 := gt L i ++ ([5] : List Int)) (by rw [hg]; rfl) (by simp; omega)
        rw [if_pos (by simp), if_pos (by simp; omega), hz, jn_inl, wrap64 (x := i + 1) (by omega) (by omega)]
        exact ⟨_, rfl, h.next hi, by dsimp only; omega⟩
      · left
        rw [if_neg hi]
        exact ⟨_, rfl, _, rfl⟩) (L.map some, 0) Left.first
  exact ⟨z, hr⟩
end
theorem cparts_some {G : List (List Int)} (hN : (G.length : Int) ≤ 50) (hrow : ∀ r ∈ G, (r.length : Int) ≤ 1048576) {a0 : List (List Int)} (h : bailifflaw15_cut.f a0 = some G) :
    bailifflaw15_CyclesParts.f a0 = some true := by
  have hrow' : ∀ r ∈ G, (r.length : Int) ≤ 9223372036854775807 := fun r hr => by have := hrow r hr; omega
  obtain ⟨out, ho, hP⟩ := Components_run (G := G) (by omega) hrow'
  have hL : ((byHead out).length : Int) ≤ 50 := by rw [len_byHead]; have := hP.len; omega
  have hp : ∀ p ∈ byHead out, (p.length : Int) ≤ 1048575 := fun p hp => by have := part_len hP (mem_byHead.1 hp); omega
  obtain ⟨z0, hz0⟩ := parts0_run (L := byHead out) (by omega) hp
  obtain ⟨z1, hz1⟩ := parts1_run (L := byHead out) (by omega) hp
  unfold bailifflaw15_CyclesParts.f
  rw [shown_run, h]
  simp only [Option.bind_some]
  rw [lent15_run hN hrow]
  simp only [Option.bind_some]
  rw [comp15_run (by omega) hrow' hP, lentOf_fst, ho]
  simp only [Option.bind_some]
  rw [if_pos trivial, jn_inl, if_neg (by simp), hz0, jn_inl]
  rw [jn_inl, if_neg (by simp), hz1, jn_inl, kept15_run hN hrow]
  rfl
theorem bailifflaw15_CyclesParts_run {a0 : List (List Int)} (_ : ∀ xs ∈ a0, xs.length ≤ maxLen) (_ : ∀ xs ∈ a0, ∀ x ∈ xs, (Lit.int .i64 x).wf = true) (hb0 : tot a0 + (a0.length : Int) ≤ 1048576) :
    bailifflaw15_CyclesParts.f a0 = some true :=
  cparts_some (by simp; omega) (fun r hr => by have := len_tot15 (List.mem_of_mem_take hr); omega) (cut_run a0)
end Go.Bw
