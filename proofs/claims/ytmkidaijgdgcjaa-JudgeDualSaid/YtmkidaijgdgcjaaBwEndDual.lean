/- JudgeDual's model comes to true, whatever comes in. Conditions: none. -/
import Derived.Test.YtmkidaijgdgcjaaBwShown16
import Derived.Test.YtmkidaijgdgcjaaBwDual
set_option linter.unusedVariables false
set_option linter.unusedSimpArgs false
set_option linter.unusedSectionVars false
namespace Go.Bw
open Go Go.RowKit Tj

theorem rise_len {n : Int} {l : List Int} (h : Rise n l) (hn : 0 ≤ n) : (l.length : Int) ≤ n := by
  have key : ∀ k : Nat, (k : Int) < (l.length : Int) → (k : Int) ≤ gt l k := by
    intro k
    induction k with
    | zero => intro hk; exact (h 0 (by omega) hk).1.1
    | succ k ih =>
      intro hk
      have h1 := ih (by omega)
      have h2 := (h ((k + 1 : Nat) : Int) (by omega) hk).2 (by omega)
      rw [show ((k + 1 : Nat) : Int) - 1 = (k : Int) from by omega] at h2
      omega
  by_cases hl : l.length = 0
  · omega
  · have h1 := key (l.length - 1) (by omega)
    have h2 := (h ((l.length - 1 : Nat) : Int) (by omega) (by omega)).1.2
    omega
theorem clone_run {l : List Int} (h : l.length ≤ 1000) : slices_Clone_int_int.f l = some l := by
  unfold slices_Clone_int_int.f
  rw [if_pos (by omega)]
theorem copy_run {O P : List Int} {M : List (List Int)} (hO : O.length ≤ 1000) (hP : P.length ≤ 1000) (hM : M.length ≤ 1000) (hr : ∀ r ∈ M, r.length ≤ 1000) : game_Copy.f O P M = some (M, P, O) := by
  obtain ⟨r, e, rfl⟩ := iter_meas (body := fun t_ : (List (List Int)) × Int => game_Copy.l0b M t_.1 t_.2)
    (fun s => 0 ≤ s.2 ∧ s.2 ≤ (M.length : Int) ∧ s.1 = M.take s.2.toNat) (fun r => r = .inl M) (fun s => (M.length - s.2).toNat)
    (fun ⟨x, k⟩ ⟨a0, a1, a2⟩ => by
      dsimp only at a0 a1 a2 ⊢
      unfold game_Copy.l0b
      by_cases hk : k < (M.length : Int)
      · right
        have hxl : x.length ≤ 1000 := by rw [a2]; simp; omega
        rw [if_pos hk, if_pos ⟨a0, hk⟩, clone_run (hr _ (gt_mem a0 hk))]
        simp only [Option.bind_some]
        rw [if_pos (by omega), wrap64 (x := k + 1) (by omega) (by omega)]
        refine ⟨_, rfl, ⟨by dsimp only; omega, by dsimp only; omega, ?_⟩, by dsimp only; omega⟩
        dsimp only
        rw [a2, show (k + 1).toNat = k.toNat + 1 from by omega, List.take_add_one, gt_some a0 hk]
        rfl
      · left
        rw [if_neg hk]
        exact ⟨_, rfl, by rw [a2, List.take_of_length_le (by omega)]⟩) ([], 0) ⟨Int.le_refl _, by dsimp only; omega, by simp⟩
  have e' : game_Copy.l0 M [] 0 = some (.inl M) := e
  unfold game_Copy.f
  rw [clone_run hO, clone_run hP]
  simp only [Option.bind_some]
  rw [e', jn_inl]
theorem bx0 : bxor .i64 0 1 = 1 := by decide
theorem bx1 : bxor .i64 1 1 = 0 := by decide
theorem dual0_run {O P : List Int} {M : List (List Int)} (high : Bool) (g : GR O P M) : ∃ O' P', game_Dual.l0 high (M, P, O) O P 0 = some (.inl (O', P')) ∧ O'.length = O.length ∧ P'.length = P.length ∧ (∀ i : Int, 0 ≤ i → i < (O.length : Int) → gt O' i = 1 - gt O i) ∧ ∀ i : Int, 0 ≤ i → i < (O.length : Int) → gt P' i = gt P i + if high = true then -1 else 1 := by
  have hlo := g.lo
  have hlp := g.lp
  have hm := g.many
  obtain ⟨r, e, O', P', rfl, h1, h2, h3, h4⟩ := iter_meas (body := fun t_ : (List Int) × (List Int) × Int => game_Dual.l0b high (M, P, O) t_.1 t_.2.1 t_.2.2)
    (fun s => 0 ≤ s.2.2 ∧ s.2.2 ≤ (O.length : Int) ∧ s.1.length = O.length ∧ s.2.1.length = P.length ∧ (∀ i : Int, 0 ≤ i → i < (O.length : Int) → gt s.1 i = if i < s.2.2 then 1 - gt O i else gt O i) ∧ ∀ i : Int, 0 ≤ i → i < (O.length : Int) → gt s.2.1 i = if i < s.2.2 then gt P i + (if high = true then -1 else 1) else gt P i)
    (fun r => ∃ O' P', r = .inl (O', P') ∧ O'.length = O.length ∧ P'.length = P.length ∧ (∀ i : Int, 0 ≤ i → i < (O.length : Int) → gt O' i = 1 - gt O i) ∧ ∀ i : Int, 0 ≤ i → i < (O.length : Int) → gt P' i = gt P i + if high = true then -1 else 1) (fun s => (O.length - s.2.2).toNat)
    (fun ⟨x, y, k⟩ ⟨a0, a1, a2, a3, a4, a5⟩ => by
      dsimp only at a0 a1 a2 a3 a4 a5 ⊢
      unfold game_Dual.l0b
      dsimp only
      by_cases hk : k < (O.length : Int)
      · right
        have ho := g.own k ⟨a0, by omega⟩
        have hp := g.prio k ⟨a0, by omega⟩
        have ex : gt x k = gt O k := by rw [a4 k a0 hk, if_neg (by omega)]
        have ey : gt y k = gt P k := by rw [a5 k a0 hk, if_neg (by omega)]
        have hb : bxor .i64 (gt x k) 1 = 1 - gt O k := by
          rw [ex]
          by_cases h : gt O k = 0
          · rw [h]; exact bx0
          · rw [show gt O k = 1 from by omega]; exact bx1
        have hj : ∀ {ρ : Type} (f : List Int → Option ρ), jn (if high = true then if (0 : Int) ≤ k ∧ k < (P.length : Int) then some (.inl (st y k (IntKind.i64.wrap (gt y k - 1)))) else none else if (0 : Int) ≤ k ∧ k < (P.length : Int) then some (.inl (st y k (IntKind.i64.wrap (gt y k + 1)))) else none) f = f (st y k (gt P k + if high = true then -1 else 1)) := fun f => by
          cases high
          · rw [if_neg (by decide), if_pos ⟨a0, by omega⟩, jn_inl, ey, wrap64 (by omega) (by omega), if_neg (by decide)]
          · rw [if_pos rfl, if_pos ⟨a0, by omega⟩, jn_inl, ey, wrap64 (by omega) (by omega), if_pos rfl]
            rfl
        rw [if_pos hk, if_pos ⟨a0, hk⟩, hj, hb, wrap64 (x := k + 1) (by omega) (by omega)]
        refine ⟨_, rfl, ⟨by dsimp only; omega, by dsimp only; omega, (st_len _ _ _).trans a2, (st_len _ _ _).trans a3, fun i b0 b1 => ?_, fun i b0 b1 => ?_⟩, by dsimp only; omega⟩
        · dsimp only
          rw [gt_st a0 (by omega) b0]
          by_cases hi : i = k
          · subst hi; rw [if_pos rfl, if_pos (by omega)]
          · rw [if_neg hi, a4 i b0 b1]
            by_cases h : i < k
            · rw [if_pos h, if_pos (by omega)]
            · rw [if_neg h, if_neg (by omega)]
        · dsimp only
          rw [gt_st a0 (by omega) b0]
          by_cases hi : i = k
          · subst hi; rw [if_pos rfl, if_pos (show i < i + 1 by omega)]
          · rw [if_neg hi, a5 i b0 b1]
            by_cases h : i < k
            · rw [if_pos h, if_pos (show i < k + 1 by omega)]
            · rw [if_neg h, if_neg (show ¬ i < k + 1 by omega)]
      · left
        rw [if_neg hk]
        exact ⟨_, rfl, x, y, rfl, a2, a3, fun i b0 b1 => by rw [a4 i b0 b1, if_pos (by omega)], fun i b0 b1 => by rw [a5 i b0 b1, if_pos (show i < k by omega)]⟩) (O, P, 0) ⟨Int.le_refl _, by dsimp only; omega, rfl, rfl, fun i b0 b1 => by dsimp only; rw [if_neg (by omega)], fun i b0 b1 => by dsimp only; rw [if_neg (show ¬ i < 0 by omega)]⟩
  exact ⟨O', P', e, h1, h2, h3, h4⟩
section
variable {c d : Cl} {e : Int}
/-- The claim d is c with the players exchanged. -/
structure Dl (c d : Cl) (e : Int) : Prop where
  M : d.M = c.M
  R0 : d.R0 = c.R1
  R1 : d.R1 = c.R0
  M0 : d.M0 = c.M1
  M1 : d.M1 = c.M0
  lo : d.O.length = c.O.length
  lp : d.P.length = c.P.length
  o : ∀ i : Int, 0 ≤ i → i < (c.O.length : Int) → gt d.O i = 1 - gt c.O i
  p : ∀ i : Int, 0 ≤ i → i < (c.O.length : Int) → gt d.P i = gt c.P i + e
theorem Dl.symm (h : Dl c d e) : Dl d c (-e) := ⟨h.M.symm, h.R1.symm, h.R0.symm, h.M1.symm, h.M0.symm, h.lo.symm, h.lp.symm, fun i a b => by have := h.o i a (by rw [← h.lo]; exact b); omega, fun i a b => by have := h.p i a (by rw [← h.lo]; exact b); omega⟩
theorem Dl.R (h : Dl c d e) {q : Int} (hq : q = 0 ∨ q = 1) : d.R q = c.R (1 - q) := by
  unfold Cl.R
  rcases hq with rfl | rfl
  · rw [if_pos rfl, if_neg (by decide), h.R0]
  · rw [if_neg (by decide), if_pos (by decide), h.R1]
theorem Dl.mv (h : Dl c d e) {q : Int} (hq : q = 0 ∨ q = 1) (i : Int) : d.mv q i = c.mv (1 - q) i := by
  unfold Cl.mv
  have : d.A q = c.A (1 - q) := by
    unfold Cl.A
    rcases hq with rfl | rfl
    · rw [if_pos rfl, if_neg (by decide), h.M0]
    · rw [if_neg (by decide), if_pos (by decide), h.M1]
  rw [this]
theorem Dl.stp (h : Dl c d e) {q : Int} (hq : q = 0 ∨ q = 1) {i : Int} (h0 : 0 ≤ i) (h1 : i < (c.O.length : Int)) : d.stp q i = c.stp (1 - q) i := by
  unfold Cl.stp
  have ho := h.o i h0 h1
  rw [h.M, h.R hq, h.mv hq]
  by_cases hh : gt c.O i = 1 - q
  · rw [if_pos hh, if_pos (show gt d.O i = q by omega)]
  · rw [if_neg hh, if_neg (show ¬ gt d.O i = q by omega)]
theorem Dl.gph (h : Dl c d e) {q : Int} (hq : q = 0 ∨ q = 1) : d.gph q = c.gph (1 - q) := by
  unfold Cl.gph
  rw [h.lo, h.R hq]
  refine List.map_congr_left fun i hi => ?_
  have := List.mem_range.1 hi
  rw [h.stp hq (by omega) (by omega)]
theorem ed_congr {G : List (List Int)} {may may' : Int → Bool} (h : ∀ x, Tj.Ok G x → may x = may' x) {u v : Int} : Ed G may u v ↔ Ed G may' u v := by
  unfold Ed
  constructor
  · rintro ⟨a, b, c⟩; exact ⟨a, b, by rw [← h v b]; exact c⟩
  · rintro ⟨a, b, c⟩; exact ⟨a, b, by rw [h v b]; exact c⟩
theorem cyc_congr {G : List (List Int)} {may may' : Int → Bool} (h : ∀ x, Tj.Ok G x → may x = may' x) {x : Int} (hc : Cyc G may x) : Cyc G may' x := by
  obtain ⟨y, e, r⟩ := hc
  refine ⟨y, (ed_congr h).1 e, ?_⟩
  clear e
  induction r with
  | refl => exact .refl _
  | step e _ ih => exact .step ((ed_congr h).1 e) ih
theorem par_shift : ∀ x : Int, 0 ≤ x → x ≤ 7 → ∀ q : Int, q = 0 ∨ q = 1 → ((par (x + 1) (1 - q) ↔ par x q) ∧ (par (x - 1) (1 - q) ↔ par x q)) := by
  intro x h0 h1 q hq
  have hx : x = 0 ∨ x = 1 ∨ x = 2 ∨ x = 3 ∨ x = 4 ∨ x = 5 ∨ x = 6 ∨ x = 7 := by omega
  unfold par
  rcases hq with rfl | rfl <;> rcases hx with rfl | rfl | rfl | rfl | rfl | rfl | rfl | rfl <;> decide
theorem Dl.prio (h : Dl c d e) (g : GR c.O c.P c.M) {x : Int} (h0 : 0 ≤ x) (h1 : x < (c.O.length : Int)) : prio d.P x = prio c.P x + e ∧ prio c.P x = gt c.P x := by
  have hlo := g.lo
  have hlp := g.lp
  have hp := h.p x h0 h1
  have hl := h.lp
  unfold Go.Bw.prio
  rw [if_pos (by omega), if_pos (by omega)]
  exact ⟨hp, rfl⟩
theorem Dl.badc (h : Dl c d e) (he : e = 1 ∨ e = -1) (g : GR c.O c.P c.M) {q b : Int} (hq : q = 0 ∨ q = 1) (hb : c.BadC (1 - q) b) : d.BadC q b := by
  unfold Cl.BadC at hb ⊢
  rw [h.gph hq]
  have hlo := g.lo
  refine hb.same fun x => ?_
  have hlen : ((c.gph (1 - q)).length : Int) = c.O.length := by rw [gph_len]
  refine and_congr_right fun ok => ?_
  have h0 := ok.1
  have h1 : x < (c.O.length : Int) := by have := ok.2; omega
  obtain ⟨p1, p2⟩ := h.prio g h0 h1
  have hr := g.prio x ⟨h0, by omega⟩
  refine and_congr ?_ ?_
  · rw [p1, p2]
    have := par_shift (gt c.P x) hr.1 hr.2 q hq
    rw [show (1 : Int) - (1 - q) = q from by omega]
    rcases he with rfl | rfl
    · exact this.1
    · exact this.2
  · have hm : ∀ y, Tj.Ok (c.gph (1 - q)) y → upto d.P (Go.Bw.prio d.P x) y = upto c.P (Go.Bw.prio c.P x) y := fun y hy => by
      have hy1 : y < (c.O.length : Int) := by have := hy.2; omega
      have py := (h.prio g hy.1 hy1).1
      unfold upto
      rw [py, p1]
      exact decide_eq_decide.2 (by omega)
    exact ⟨cyc_congr hm, cyc_congr fun y hy => (hm y hy).symm⟩
theorem Dl.acc (h : Dl c d e) (he : e = 1 ∨ e = -1) (gd : GR d.O d.P d.M) (a : c.Acc) : d.Acc := by
  have hlo := h.lo
  have bs : ∀ q, q = 0 ∨ q = 1 → ∀ i, 0 ≤ i → i < (d.O.length : Int) → ¬ d.BadS q i := fun q hq i h0 h1 hb => by
    unfold Cl.BadS at hb
    rw [h.R hq, h.stp hq h0 (by omega)] at hb
    exact a.step (p := 1 - q) (by omega) h0 (by omega) hb
  refine ⟨gd, fun i h0 h1 => ?_, ?_, bs 0 (.inl rfl), bs 1 (.inr rfl), ?_, ?_⟩
  · have := a.part i h0 (by omega)
    unfold Odd at this ⊢
    rw [h.R0, h.R1]
    omega
  · rw [offs_zero, h.R0, h.R1, h.lo]
    exact ⟨(offs_zero.1 a.off).2, (offs_zero.1 a.off).1⟩
  · obtain ⟨b, hb, hn⟩ := a.cyc1
    exact ⟨b, h.badc he a.gr (.inl rfl) hb, hn⟩
  · obtain ⟨b, hb, hn⟩ := a.cyc0
    exact ⟨b, h.badc he a.gr (.inr rfl) hb, hn⟩
open Classical in
theorem dual_some (hrow : ∀ r ∈ c.M, (r.length : Int) ≤ 9223372036854775807) (hM : (c.M.length : Int) ≤ 9223372036854775807) (hP : (c.P.length : Int) ≤ 9223372036854775807) (l0 : (c.R0.length : Int) ≤ 9223372036854775807) (l1 : (c.R1.length : Int) ≤ 9223372036854775807) :
    bailifflaw16_JudgeDual.f c.O c.P c.M c.R0 c.R1 c.M0 c.M1 = some true := by
  obtain ⟨e0, at_, e1, e2⟩ := right_run (O := c.O) (P := c.P) (M := c.M) hM hrow
  have his : game_is.f c.O c.P c.M = some (decide (GR c.O c.P c.M)) := by
    
    unfold game_is.f
    rw [e1]
    simp only [Option.bind_some]
    congr 1
    exact decide_eq_decide.2 e2
  unfold bailifflaw16_JudgeDual.f game_Dual.f
  rw [shown16_run, contains_run hP, his]
  simp only [Option.bind_some]
  by_cases hg : GR c.O c.P c.M
  · rw [if_pos (decide_eq_true hg)]
    have hc0 : ∀ {ρ : Type} (f : Bool → Option ρ), jn (if decide ((7 : Int) ∈ c.P) = true then (slices_Contains_int_int.f c.P 0).bind fun t => some (.inl t) else some (.inl false)) f = f (decide ((7 : Int) ∈ c.P ∧ (0 : Int) ∈ c.P)) := fun f => by
      by_cases h : (7 : Int) ∈ c.P
      · rw [if_pos (decide_eq_true h), contains_run hP]
        simp only [Option.bind_some]
        rw [jn_inl]
        congr 1
        exact decide_eq_decide.2 ⟨fun h' => ⟨h, h'⟩, fun h' => h'.2⟩
      · rw [decide_eq_false h, if_neg (by simp), jn_inl, decide_eq_false (fun h' => h h'.1)]
    rw [hc0, jn_inl]
    by_cases hb : (7 : Int) ∈ c.P ∧ (0 : Int) ∈ c.P
    · rw [if_pos (decide_eq_true hb)]
      simp only [Option.bind_some]
      rw [if_pos trivial, jn_inl]
      rfl
    · have hlo := hg.lo
      have hlp := hg.lp
      have hm := hg.many
      have hpos := hg.pos
      have hcopy : game_Copy.f c.O c.P c.M = some (c.M, c.P, c.O) := copy_run (by omega) (by omega) (by omega) fun r hr => by
        obtain ⟨j, hj, rfl⟩ := List.getElem_of_mem hr
        have := rise_len (hg.rise (j : Int) ⟨by omega, by omega⟩) (by omega)
        rw [gt_of_get (List.getElem?_eq_getElem hj)] at this
        omega
      obtain ⟨O', P', d0, d1, d2, d3, d4⟩ := dual0_run (decide ((7 : Int) ∈ c.P)) hg
      rw [if_neg (by simpa using hb), hcopy]
      simp only [Option.bind_some]
      rw [d0, jn_inl]
      simp only [Option.bind_some]
      rw [if_pos trivial, jn_inl, decide_eq_false (show ¬ (O'.length : Int) = 0 by omega), if_neg (by simp)]
      obtain ⟨v, j1, s1⟩ := judge_run (c := c) hrow hM l0 l1
      obtain ⟨u, j2, s2⟩ := judge_run (c := ⟨O', P', c.M, c.R1, c.R0, c.M1, c.M0⟩) hrow hM l1 l0
      dsimp only at j2
      rw [j1, j2]
      simp only [Option.bind_some]
      have hD : Dl c ⟨O', P', c.M, c.R1, c.R0, c.M1, c.M0⟩ (if decide ((7 : Int) ∈ c.P) = true then -1 else 1) := ⟨rfl, rfl, rfl, rfl, rfl, d1, d2, d3, d4⟩
      have he : (if decide ((7 : Int) ∈ c.P) = true then (-1 : Int) else 1) = 1 ∨ (if decide ((7 : Int) ∈ c.P) = true then (-1 : Int) else 1) = -1 := by
        split
        · exact .inr rfl
        · exact .inl rfl
      have gd : GR O' P' c.M := by
        refine ⟨by omega, by omega, hpos, hm, fun i hi => ?_, fun i hi => ?_, hg.ne, hg.rise⟩
        · have := hg.own i hi
          have := d3 i hi.1 (by have := hi.2; omega)
          omega
        · have hp := hg.prio i hi
          have hi2 := hi.2
          have hmem : gt c.P i ∈ c.P := gt_mem hi.1 (by omega)
          rw [d4 i hi.1 (by omega)]
          by_cases h7 : (7 : Int) ∈ c.P
          · rw [if_pos (decide_eq_true h7)]
            have : gt c.P i ≠ 0 := fun h => hb ⟨h7, h ▸ hmem⟩
            omega
          · rw [decide_eq_false h7, if_neg (by simp)]
            have : gt c.P i ≠ 7 := fun h => h7 (h ▸ hmem)
            omega
      have key : v.1 = 0 ↔ u.1 = 0 := by
        rw [s1.acc, s2.acc]
        constructor
        · exact fun a => hD.acc he gd a
        · exact fun a => hD.symm.acc (by omega) hg a
      by_cases h : v.1 = 0
      · rw [decide_eq_true h, decide_eq_true (key.1 h)]; rfl
      · rw [decide_eq_false h, decide_eq_false (fun h' => h (key.2 h'))]; rfl
  · rw [decide_eq_false hg, if_neg (by simp), jn_inl, if_pos rfl]
    simp only [Option.bind_some]
    rw [if_pos trivial, jn_inl]
    rfl
theorem bailifflaw16_JudgeDual_run {O P : List Int} {M : List (List Int)} {R0 R1 M0 M1 : List Int} (_ : O.length ≤ maxLen) (_ : ∀ x ∈ O, (Lit.int .i64 x).wf = true) (hP : P.length ≤ maxLen) (_ : ∀ x ∈ P, (Lit.int .i64 x).wf = true)
    (hM : M.length ≤ maxLen) (hrow : ∀ xs ∈ M, xs.length ≤ maxLen) (_ : ∀ xs ∈ M, ∀ x ∈ xs, (Lit.int .i64 x).wf = true) (l0 : R0.length ≤ maxLen) (_ : ∀ x ∈ R0, (Lit.int .i64 x).wf = true) (l1 : R1.length ≤ maxLen) (_ : ∀ x ∈ R1, (Lit.int .i64 x).wf = true)
    (_ : M0.length ≤ maxLen) (_ : ∀ x ∈ M0, (Lit.int .i64 x).wf = true) (_ : M1.length ≤ maxLen) (_ : ∀ x ∈ M1, (Lit.int .i64 x).wf = true) : bailifflaw16_JudgeDual.f O P M R0 R1 M0 M1 = some true := by
  have key : ∀ {n : Nat}, n ≤ maxLen → (n : Int) ≤ 9223372036854775807 := fun h => by unfold maxLen at h; omega
  exact dual_some (c := ⟨O, P, M, R0, R1, M0, M1⟩) (fun r hr => key (hrow r hr)) (key hM) (key hP) (key l0) (key l1)
end
end Go.Bw
