/- What a table tells: the models of New, Next, Back. Conditions: none. -/
import Derived.Test.YtbkooifhcekpmaaGreatBwNew
import Derived.Test.YtbkooifhcekpmaaGreatBwTrn
import Derived.Test.YtbkooifhcekpmaaGreatBwLts1
import Derived.Test.YtbkooifhcekpmaaGreatBwSets3
set_option linter.unusedVariables false
set_option linter.unusedSimpArgs false
set_option linter.unusedSectionVars false
namespace Go.Bw
open Go Go.RowKit

/-! ### Words shifted -/
theorem shr_wd (v : BitVec 64) {s : Int} (h0 : 0 ≤ s) (h1 : s < 64) : Bw.shr .u64 (Wd v) s = Wd (v >>> s.toNat) := by
  have hs : min s.toNat IntKind.u64.bits = s.toNat := Nat.min_eq_left (show s.toNat ≤ 64 by omega)
  unfold Bw.shr Wd
  rw [hs, Int.fdiv_eq_ediv_of_nonneg _ (Int.pow_nonneg (by decide)), BitVec.toNat_ushiftRight, Nat.shiftRight_eq_div_pow]
  have : (2 : Int) ^ s.toNat = ((2 ^ s.toNat : Nat) : Int) := by rw [Int.natCast_pow]; rfl
  rw [this]
  rfl
theorem wd_zero {v : BitVec 64} : Wd v = 0 ↔ v = 0#64 := by
  constructor
  · intro h; exact Wd.inj (h.trans rfl)
  · rintro rfl; rfl
theorem wd_one {v : BitVec 64} : Wd v = 1 ↔ v = 1#64 := by
  constructor
  · intro h; exact Wd.inj (h.trans rfl)
  · rintro rfl; rfl
theorem bit_wd (v : BitVec 64) {s : Int} (h0 : 0 ≤ s) (h1 : s < 64) : band .u64 (Bw.shr .u64 (Wd v) s) 1 = 1 ↔ v.getLsbD s.toNat = true := by
  rw [shr_wd v h0 h1, show (1 : Int) = Wd 1#64 from rfl, band_wd]
  constructor
  · intro h
    have := Wd.inj h
    have h2 := congrArg (fun z => z.getLsbD 0) this
    simpa using h2
  · intro h
    congr 1
    apply BitVec.eq_of_getLsbD_eq
    intro i hi
    rw [BitVec.getLsbD_and, BitVec.getLsbD_ushiftRight]
    by_cases hi0 : i = 0
    · subst hi0; simp [h]
    · have : (1#64).getLsbD i = false := by simp [hi0]
      rw [this]; simp
theorem shr_none {v : BitVec 64} {s : Int} (h0 : 0 ≤ s) (h1 : s < 64) (h : ∀ i : Nat, s ≤ i → v.getLsbD i = false) : Bw.shr .u64 (Wd v) s = 0 := by
  rw [shr_wd v h0 h1]
  refine wd_zero.2 (BitVec.eq_of_getLsbD_eq fun i hi => ?_)
  rw [BitVec.getLsbD_ushiftRight, h _ (by omega)]
  simp
/-! ### Maps -/
theorem mget_mset {κ ν : Type} [DecidableEq κ] : ∀ (m : List (κ × ν)) (k k' : κ) (v : ν), mget (mset m k v) k' = if k = k' then some v else mget m k'
  | [], k, k', v => by unfold mset mget; split <;> rfl
  | p :: r, k, k', v => by
    unfold mset
    by_cases h : p.1 = k
    · rw [if_pos h]
      unfold mget
      by_cases h2 : k = k'
      · simp [h2]
      · rw [if_neg h2, if_neg h2, if_neg (fun h3 => h2 (h.symm.trans h3))]
    · rw [if_neg h]
      unfold mget
      by_cases h2 : p.1 = k'
      · rw [if_pos h2, if_pos h2, if_neg (fun h3 => h (h2.trans h3.symm))]
      · rw [if_neg h2, if_neg h2, mget_mset r k k' v]
/-- An edge by a name: of that action, or of any. -/
def Hit (x : List Bs) (E : List api_Edge) (k : lts_edges) (t : Int) : Prop := ∃ e ∈ E, e.From = k.from_ ∧ e.To = t ∧ (gt x e.Action = k.action ∨ k.action = [45])
abbrev set0 : sets_Set := ⟨(0 : Int), (0 : Int), (0 : Int), (0 : Int)⟩
def W4.s (u : W4) : sets_Set := ⟨Wd u.a, Wd u.b, Wd u.c, Wd u.d⟩
/-- A map that tells of these edges. -/
def Nx (x : List Bs) (E : List api_Edge) (m : List (lts_edges × sets_Set)) : Prop := ∀ k, ∃ u : W4, (mget m k).getD set0 = u.s ∧ u.Rep (Hit x E k)
theorem put_hit {m : List (lts_edges × sets_Set)} {S : lts_edges → Int → Prop} (h : ∀ k, ∃ u : W4, (mget m k).getD set0 = u.s ∧ u.Rep (S k)) {k0 : lts_edges} {t : Int} (h0 : 0 ≤ t) (h1 : t < 256) {u : W4} (hu : (mget m k0).getD set0 = u.s) :
    ∀ k, ∃ u' : W4, (mget (mset m k0 (u.put t).s) k).getD set0 = u'.s ∧ u'.Rep (fun n => S k n ∨ k0 = k ∧ n = t) := fun k => by
  rw [mget_mset]
  by_cases hk : k0 = k
  · subst hk
    rw [if_pos rfl]
    obtain ⟨v, hv, hr⟩ := h k0
    rw [hu] at hv
    have : u = v := by
      cases u; cases v
      simp only [W4.s, sets_Set.mk.injEq] at hv
      rw [Wd.inj hv.1, Wd.inj hv.2.1, Wd.inj hv.2.2.1, Wd.inj hv.2.2.2]
    subst this
    refine ⟨u.put t, rfl, fun n n0 n1 => ?_⟩
    rw [W4.put_rep hr h0 h1 n n0 n1]
    simp
  · rw [if_neg hk]
    obtain ⟨v, hv, hr⟩ := h k
    refine ⟨v, hv, fun n n0 n1 => ?_⟩
    rw [hr n n0 n1]
    simp [hk]
theorem l2_run (x : List Bs) (y : List api_Edge) {j : Int} (hj : 0 ≤ j) (hj2 : j < (y.length : Int)) {E : List api_Edge} {m : List (lts_edges × sets_Set)} (hm : Nx x E m) (ht : 0 ≤ (gt y j).To ∧ (gt y j).To < 256) :
    ∃ m', lts_New.l2 x y j m 0 = some (.inl m') ∧ Nx x (E ++ [gt y j]) m' := by
  unfold lts_New.l2
  rw [iter_eq]
  have w1 : IntKind.i64.wrap (0 + 1) = 1 := wrap64 (by decide) (by decide)
  have w2 : IntKind.i64.wrap (1 + 1) = 2 := wrap64 (by decide) (by decide)
  have g0 : gt [gt x (gt y j).Action, ([45] : Bs)] 0 = gt x (gt y j).Action := rfl
  have g1 : gt [gt x (gt y j).Action, ([45] : Bs)] 1 = [45] := rfl
  obtain ⟨u1, e1, r1⟩ := hm ⟨(gt y j).From, gt x (gt y j).Action⟩
  have s1 := put_hit hm ht.1 ht.2 e1
  obtain ⟨u2, e2, r2⟩ := s1 ⟨(gt y j).From, [45]⟩
  have s2 := put_hit s1 ht.1 ht.2 e2
  refine ⟨mset (mset m ⟨(gt y j).From, gt x (gt y j).Action⟩ (u1.put (gt y j).To).s) ⟨(gt y j).From, [45]⟩ (u2.put (gt y j).To).s, ?_, fun k => ?_⟩
  rotate_left
  · obtain ⟨u3, e3, r3⟩ := s2 k
    refine ⟨u3, e3, fun n n0 n1 => ?_⟩
    rw [r3 n n0 n1]
    unfold Hit
    constructor
    · rintro ((⟨e, he, q⟩ | ⟨rfl, rfl⟩) | ⟨rfl, rfl⟩)
      · exact ⟨e, by simp [he], q⟩
      · exact ⟨gt y j, by simp, rfl, rfl, .inl rfl⟩
      · exact ⟨gt y j, by simp, rfl, rfl, .inr rfl⟩
    · rintro ⟨e, he, q1, q2, q3⟩
      rcases List.mem_append.1 he with he | he
      · exact .inl (.inl ⟨e, he, q1, q2, q3⟩)
      · simp at he
        subst he
        rcases q3 with q3 | q3
        · exact .inl (.inr ⟨by rw [q1, q3], q2.symm⟩)
        · exact .inr ⟨by rw [q1, ← q3], q2.symm⟩
  · simp only [lts_New.l2b]
    rw [if_pos (by simp), if_pos (by simp), g0, e1]
    simp only [W4.s, with_run, if_pos ht, Option.bind_some, nx, w1]
    rw [iter_eq]
    simp only [lts_New.l2b]
    rw [if_pos (by simp), if_pos (by simp), g1]
    have e2' : (mget (mset m ({ from_ := (gt y j).From, action := gt x (gt y j).Action } : lts_edges) ({ c0 := (u1.put (gt y j).To).t.1, c1 := (u1.put (gt y j).To).t.2.1, c2 := (u1.put (gt y j).To).t.2.2.1, c3 := (u1.put (gt y j).To).t.2.2.2 } : sets_Set)) { from_ := (gt y j).From, action := [45] }).getD set0 = u2.s := e2
    rw [e2']
    simp only [W4.s, with_run, if_pos ht, Option.bind_some, nx, w2]
    rw [iter_eq]
    simp only [lts_New.l2b]
    rw [if_neg (by simp)]
    rfl
theorem l1_run (n : Int) (x : List Bs) (y : List api_Edge) (hy : (y.length : Int) ≤ 9223372036854775807) (he : ∀ e ∈ y, EdgeIn n x.length e) (hn : n ≤ 24) :
    ∃ m, lts_New.l1 x y [] 0 = some (.inl m) ∧ Nx x y m := by
  obtain ⟨r, hr, m, rfl, hm⟩ := iter_meas (body := fun t_ : List (lts_edges × sets_Set) × Int => lts_New.l1b x y t_.1 t_.2) (fun s => 0 ≤ s.2 ∧ s.2 ≤ (y.length : Int) ∧ Nx x (y.take s.2.toNat) s.1)
    (fun r => ∃ m, r = .inl m ∧ Nx x y m) (fun s => ((y.length : Int) - s.2).toNat) (fun ⟨m, i⟩ ⟨h0, h1, h2⟩ => by
      dsimp only at h0 h1 h2 ⊢
      unfold lts_New.l1b
      by_cases hi : i < (y.length : Int)
      · right
        have hE := he _ (gt_mem h0 hi)
        obtain ⟨m', hm', hx⟩ := l2_run x y h0 hi h2 ⟨hE.2.2.1, by have := hE.2.2.2.1; omega⟩
        rw [if_pos hi, if_pos ⟨h0, hi⟩, if_pos hE.2.2.2.2, hm', jn_inl, wrap64 (x := i + 1) (by omega) (by omega)]
        refine ⟨_, rfl, ⟨by dsimp only; omega, by dsimp only; omega, ?_⟩, by dsimp only; omega⟩
        dsimp only
        rw [show (i + 1).toNat = i.toNat + 1 from by omega, List.take_add_one, gt_some h0 hi]
        exact hx
      · left
        rw [if_neg hi]
        refine ⟨_, rfl, m, rfl, ?_⟩
        rwa [List.take_of_length_le (by omega)] at h2) ([], 0) ⟨Int.le_refl _, by dsimp only; omega, fun k => ⟨W4.z, rfl, fun n n0 n1 => by
          rw [W4.z_rep n n0 n1]
          simp [Hit]⟩⟩
  exact ⟨m, hr, hm⟩
theorem l0_run (z : List api_Prop) (hz : (z.length : Int) ≤ 9223372036854775807) (hs : ∀ p ∈ z, (p.States.length : Int) ≤ 9223372036854775807) : ∃ m, lts_New.l0 z [] 0 = some (.inl m) := by
  obtain ⟨r, hr, m, rfl⟩ := iter_meas (body := fun t_ : List (Bs × sets_Set) × Int => lts_New.l0b z t_.1 t_.2) (fun s => 0 ≤ s.2)
    (fun r => ∃ m, r = .inl m) (fun s => ((z.length : Int) - s.2).toNat) (fun ⟨m, i⟩ h0 => by
      dsimp only at h0 ⊢
      unfold lts_New.l0b
      by_cases hi : i < (z.length : Int)
      · right
        obtain ⟨u, hu, _⟩ := of_run4 (hs _ (gt_mem h0 hi))
        rw [if_pos hi, if_pos ⟨h0, hi⟩, hu, wrap64 (x := i + 1) (by omega) (by omega)]
        exact ⟨_, rfl, by dsimp only; omega, by dsimp only; omega⟩
      · left; rw [if_neg hi]; exact ⟨_, rfl, m, rfl⟩) ([], 0) (Int.le_refl _)
  exact ⟨m, hr⟩
/-- What New hands back. -/
theorem new_run (n : Int) (x : List Bs) (y : List api_Edge) (z : List api_Prop) (hs : ∀ p ∈ z, (p.States.length : Int) ≤ 9223372036854775807) :
    (lts_Right.f n x y z = some false ∧ lts_New.f n x y z = some none) ∨
    lts_Right.f n x y z = some true ∧ 1 ≤ n ∧ n ≤ 24 ∧ x.length ≤ 8 ∧ (∀ e ∈ y, EdgeIn n x.length e) ∧ ∃ holds next, lts_New.f n x y z = some (some ⟨n, holds, next⟩) ∧ Nx x y next := by
  obtain ⟨b, hb, hf⟩ := right_run n x y z hs
  unfold lts_New.f
  rw [hb]
  cases b with
  | false => left; exact ⟨rfl, by simp⟩
  | true =>
    right
    obtain ⟨h1, h2, h3, h4, h5, h6⟩ := hf rfl
    obtain ⟨m0, hm0⟩ := l0_run z (by omega) hs
    obtain ⟨m1, hm1, hx⟩ := l1_run n x y (by omega) h6 h2
    exact ⟨rfl, h1, h2, h3, h6, m0, m1, by simp [hm0, hm1, jn], hx⟩
theorem next_run {x : List Bs} {y : List api_Edge} {next : List (lts_edges × sets_Set)} (hx : Nx x y next) (n : Int) (holds : List (Bs × sets_Set)) (s : Int) (a : Bs) : ∃ u : W4, lts_Table_Next.f n holds next s a = some u.t ∧ u.Rep (Hit x y ⟨s, a⟩) := by
  obtain ⟨u, hu, hr⟩ := hx ⟨s, a⟩
  refine ⟨u, ?_, hr⟩
  unfold lts_Table_Next.f
  rw [hu]
  rfl
theorem band0 (v : BitVec 64) : band .u64 (Wd v) 0 = 0 := by
  rw [show (0 : Int) = Wd 0#64 from rfl, band_wd]
  simp
/-- Has one of these a place in the word? -/
def Meets (S : Int → Prop) (to : BitVec 64) : Prop := ∃ t : Nat, t < 64 ∧ S t ∧ to.getLsbD t = true
theorem and_meets {u : W4} {S : Int → Prop} (h : u.Rep S) (to : BitVec 64) : u.a &&& to = 0#64 ↔ ¬ Meets S to := by
  have hb : ∀ i : Nat, i < 64 → (u.a.getLsbD i = true ↔ S i) := fun i hi => by
    have := h i (by omega) (by omega)
    unfold W4.has W4.sel at this
    rw [show ((i : Int) / 64) = 0 from by omega, show ((i : Int) % 64).toNat = i from by omega] at this
    simpa using this
  constructor
  · rintro h0 ⟨t, h1, h2, h3⟩
    have := congrArg (fun z => z.getLsbD t) h0
    simp [(hb t h1).2 h2, h3] at this
  · intro hn
    apply BitVec.eq_of_getLsbD_eq
    intro i hi
    rw [BitVec.getLsbD_and]
    cases h1 : u.a.getLsbD i with
    | false => simp
    | true =>
      cases h2 : to.getLsbD i with
      | false => simp
      | true => exact absurd ⟨i, hi, (hb i hi).1 h1, h2⟩ hn
theorem back_run {x : List Bs} {y : List api_Edge} {next : List (lts_edges × sets_Set)} (hx : Nx x y next) {n : Int} (hn : 0 ≤ n) (hn2 : n ≤ 24) (holds : List (Bs × sets_Set)) (to : BitVec 64) (a : Bs) :
    ∃ v : W4, lts_Table_Back.f n holds next (Wd to) 0 0 0 a = some v.t ∧ v.Rep (fun s => 0 ≤ s ∧ s < n ∧ Meets (Hit x y ⟨s, a⟩) to) := by
  obtain ⟨r, hr, v, rfl, hv⟩ := iter_meas (body := fun t_ : Int × Int × Int × Int × Int => lts_Table_Back.l0b n next (Wd to) 0 0 0 a t_.1 t_.2.1 t_.2.2.1 t_.2.2.2.1 t_.2.2.2.2)
    (fun s => 0 ≤ s.2.2.2.2 ∧ s.2.2.2.2 ≤ n ∧ ∃ v : W4, (s.1, s.2.1, s.2.2.1, s.2.2.2.1) = v.t ∧ v.Rep (fun q => 0 ≤ q ∧ q < s.2.2.2.2 ∧ Meets (Hit x y ⟨q, a⟩) to))
    (fun r => ∃ v : W4, r = .inl v.t ∧ v.Rep (fun s => 0 ≤ s ∧ s < n ∧ Meets (Hit x y ⟨s, a⟩) to)) (fun s => (n - s.2.2.2.2).toNat)
    (fun ⟨w0, w1, w2, w3, i⟩ ⟨a0, a1, v, a2, a3⟩ => by
      dsimp only at a0 a1 a2 a3 ⊢
      simp only [W4.t, Prod.mk.injEq] at a2
      obtain ⟨rfl, rfl, rfl, rfl⟩ := a2
      unfold lts_Table_Back.l0b
      by_cases hi : i < n
      · right
        obtain ⟨u, hu, hur⟩ := hx ⟨i, a⟩
        rw [if_pos hi, hu, wrap64 (x := i + 1) (by omega) (by omega)]
        simp only [W4.s, sets_Set_And.f, band_wd, band0, Option.bind_some, decide_true, Bool.and_true]
        by_cases hz : u.a &&& to = 0#64
        · rw [if_pos (by rw [hz]; rfl), jn_inl]
          refine ⟨_, rfl, ⟨by dsimp only; omega, by dsimp only; omega, v, rfl, fun q q0 q1 => ?_⟩, by dsimp only; omega⟩
          rw [a3 q q0 q1]
          have hnm := (and_meets hur to).1 hz
          dsimp only
          constructor
          · rintro ⟨h1, h2, h3⟩; exact ⟨h1, by omega, h3⟩
          · rintro ⟨h1, h2, h3⟩
            refine ⟨h1, ?_, h3⟩
            have : q ≠ i := fun h => by subst h; exact hnm h3
            omega
        · rw [if_neg (by rw [decide_eq_true_eq]; exact fun h => hz (wd_zero.1 h)), with_run, if_pos (by omega)]
          simp only [Option.bind_some, jn_inl]
          refine ⟨_, rfl, ⟨by dsimp only; omega, by dsimp only; omega, v.put i, rfl, fun q q0 q1 => ?_⟩, by dsimp only; omega⟩
          rw [W4.put_rep a3 a0 (by omega) q q0 q1]
          have hm : Meets (Hit x y ⟨i, a⟩) to := Classical.not_not.1 fun h => hz ((and_meets hur to).2 h)
          dsimp only
          constructor
          · rintro (⟨h1, h2, h3⟩ | rfl)
            · exact ⟨h1, by omega, h3⟩
            · exact ⟨a0, by omega, hm⟩
          · rintro ⟨h1, h2, h3⟩
            by_cases h : q = i
            · exact .inr h
            · exact .inl ⟨h1, by omega, h3⟩
      · left
        rw [if_neg hi]
        refine ⟨_, rfl, v, rfl, ?_⟩
        have : i = n := by omega
        subst this
        exact a3) (0, 0, 0, 0, 0) ⟨Int.le_refl _, hn, W4.z, rfl, fun q q0 q1 => by
          rw [W4.z_rep q q0 q1]
          dsimp only
          constructor
          · exact fun h => h.elim
          · rintro ⟨h1, h2, _⟩; omega⟩
  refine ⟨v, ?_, hv⟩
  unfold lts_Table_Back.f
  have hl : lts_Table_Back.l0 n next (Wd to) 0 0 0 a 0 0 0 0 0 = some (.inl v.t) := hr
  rw [hl, jn_inl]
end Go.Bw
