/- ref15: what a node reaches, which nodes top a cycle, and the least of them: as the models tell it. Conditions: none. -/
import Derived.Test.YtmkidaijgdgcjaaBwCycl
import Derived.Test.YtmkidaijgdgcjaaBwRef
set_option linter.unusedVariables false
set_option linter.unusedSimpArgs false
set_option linter.unusedSectionVars false
namespace Go.Bw
open Go Go.RowKit Tj

theorem count_flag {xs : List Bool} {i : Int} (h0 : 0 ≤ i) (h1 : i < (xs.length : Int)) (hz : gt xs i = false) : (st xs i true).count false + 1 = xs.count false := by
  have hi : i.toNat < xs.length := by omega
  have hg := gt_some h0 h1
  rw [hz] at hg
  have he : xs = xs.take i.toNat ++ false :: xs.drop (i.toNat + 1) := by
    have : xs[i.toNat] = false := by rw [List.getElem?_eq_getElem hi] at hg; exact Option.some.inj hg
    rw [← this, ← List.drop_eq_getElem_cons hi, List.take_append_drop]
  unfold st
  rw [List.set_eq_take_append_cons_drop, if_pos hi]
  conv => rhs; rw [he]
  simp [List.count_append, List.count_cons]
  omega
theorem range_jn15 {ρ : Type} {v N : Int} (f : Bool → Option ρ) : jn (if 0 ≤ v then some (.inl (decide (v < N))) else some (.inl false)) f = f (decide (0 ≤ v ∧ v < N)) := by
  by_cases h0 : 0 ≤ v
  · rw [if_pos h0, jn_inl]
    congr 1
    exact decide_eq_decide.2 ⟨fun h => ⟨h0, h⟩, fun h => h.2⟩
  · rw [if_neg h0, jn_inl, decide_eq_false (fun h => h0 h.1)]
theorem of_run {p : List Int} {i : Int} (h0 : 0 ≤ i) : bailiffref15_of.f p i = some (prio p i) := by
  unfold bailiffref15_of.f prio
  by_cases h : i < (p.length : Int)
  · rw [if_neg (by omega), if_pos ⟨h0, h⟩, if_pos h]
  · rw [if_pos (by omega), if_neg h]
/-- What a node reaches by a step or more. -/
def Rc (G : List (List Int)) (may : Int → Bool) (fr m : Int) : Prop := ∃ y, Ed G may fr y ∧ Rch G may y m
structure Rs (G : List (List Int)) (may : Int → Bool) (fr : Int) (stk : List Int) (inn : List Bool) : Prop where
  len : inn.length = G.length
  snd : ∀ m, Tj.Ok G m → gt inn m = true → Rc G may fr m
  el : ∀ w ∈ stk, Tj.Ok G w ∧ (w = fr ∨ gt inn w = true)
/-- Steps from the nodes that are come to and not under way are taken. -/
def Shut (G : List (List Int)) (may : Int → Bool) (fr : Int) (stk : List Int) (inn : List Bool) (w : Int) : Prop :=
  (w = fr ∨ (Tj.Ok G w ∧ gt inn w = true)) → w ∉ stk → ∀ y, Ed G may w y → gt inn y = true
section
variable {G : List (List Int)} {may : Int → Bool} {fr : Int}
theorem r1_run {ok : List Bool} {stk q0 : List Int} {inn0 : List Bool} {u : Int} (hu : gt stk (IntKind.i64.wrap ((stk.length : Int) - 1)) = u) (hN : (G.length : Int) ≤ 1099511627776) (hrow : ∀ r ∈ G, (r.length : Int) ≤ 9223372036854775807)
    (hok : ∀ m, Tj.Ok G m → gt ok m = may m) (hol : ok.length = G.length) (huo : Tj.Ok G u) (hur : u = fr ∨ Rc G may fr u) (h : Rs G may fr q0 inn0)
    (hc : ∀ w, w ≠ u → Shut G may fr q0 inn0 w) (hcnt : q0.length + inn0.count false ≤ G.length) :
    ∃ q inn, bailiffref15_Reach.l1 G ok stk q0 inn0 0 = some (.inl (q, inn)) ∧ Rs G may fr q inn ∧ (∀ w, Shut G may fr q inn w) ∧ q.length + inn.count false ≤ G.length ∧ q.length + 2 * inn.count false ≤ q0.length + 2 * inn0.count false := by
  obtain ⟨r, hr, q, inn, rfl, h1, h2, h3, h4⟩ := iter_meas (body := fun t_ : (List Int) × (List Bool) × Int => bailiffref15_Reach.l1b G ok stk t_.1 t_.2.1 t_.2.2)
    (fun s => 0 ≤ s.2.2 ∧ s.2.2 ≤ ((gt G u).length : Int) ∧ Rs G may fr s.1 s.2.1 ∧ (∀ w, w ≠ u → Shut G may fr s.1 s.2.1 w) ∧ (∀ y, y ∈ (gt G u).take s.2.2.toNat → Tj.Ok G y → may y = true → gt s.2.1 y = true) ∧ s.1.length + s.2.1.count false ≤ G.length ∧ s.1.length + 2 * s.2.1.count false ≤ q0.length + 2 * inn0.count false)
    (fun r => ∃ q inn, r = .inl (q, inn) ∧ Rs G may fr q inn ∧ (∀ w, Shut G may fr q inn w) ∧ q.length + inn.count false ≤ G.length ∧ q.length + 2 * inn.count false ≤ q0.length + 2 * inn0.count false) (fun s => ((gt G u).length - s.2.2).toNat)
    (fun ⟨q, inn, i⟩ ⟨a0, a1, a2, a3, a4, a5, a6⟩ => by
      dsimp only at a0 a1 a2 a3 a4 a5 a6 ⊢
      have hlen := hrow _ (gt_mem huo.1 huo.2)
      have hrep : ((List.replicate (G.length : Int).toNat (false : Bool)).length : Int) = G.length := by simp
      unfold bailiffref15_Reach.l1b
      rw [hu, if_pos (show (0 : Int) ≤ u ∧ u < (G.length : Int) from huo)]
      by_cases hi : i < ((gt G u).length : Int)
      · right
        have htake : ∀ v, v ∈ (gt G u).take (i + 1).toNat ↔ v ∈ (gt G u).take i.toNat ∨ v = gt (gt G u) i := fun v => by
          rw [show (i + 1).toNat = i.toNat + 1 from by omega, List.take_add_one, gt_some a0 hi]
          simp
        have hmem : gt (gt G u) i ∈ gt G u := gt_mem a0 hi
        rw [if_pos hi, if_pos ⟨a0, hi⟩, range_jn15, wrap64 (x := i + 1) (by omega) (by omega), hrep, hol]
        by_cases hv : Tj.Ok G (gt (gt G u) i)
        · have hv' : (0 : Int) ≤ gt (gt G u) i ∧ gt (gt G u) i < (G.length : Int) := hv
          rw [decide_eq_true hv', if_pos rfl, if_pos hv', jn_inl, hok _ hv]
          by_cases hm : may (gt (gt G u) i) = true
          · rw [if_pos hm, if_pos hv', jn_inl]
            by_cases hf : gt inn (gt (gt G u) i) = true
            · rw [hf, if_neg (by simp), jn_inl]
              refine ⟨_, rfl, ⟨by dsimp only; omega, by dsimp only; omega, a2, a3, fun y hy hyo hym => ?_, a5, a6⟩, by dsimp only; omega⟩
              rcases (htake y).1 hy with hy | rfl
              · exact a4 y hy hyo hym
              · exact hf
            · have hf' : gt inn (gt (gt G u) i) = false := by simpa using hf
              have hil : gt (gt G u) i < (inn.length : Int) := by rw [a2.len]; exact hv.2
              have hcf := count_flag hv.1 hil hf'
              have hst : ∀ j, 0 ≤ j → gt (st inn (gt (gt G u) i) true) j = if j = gt (gt G u) i then true else gt inn j := fun j hj => gt_st hv.1 hil hj
              rw [hf', if_pos (show (!false) = true from rfl), if_pos hv', if_pos (by simp; omega), jn_inl]
              have hed : Ed G may u (gt (gt G u) i) := ⟨hmem, hv, hm⟩
              refine ⟨_, rfl, ⟨by dsimp only; omega, by dsimp only; omega, ⟨by dsimp only; rw [st_len]; exact a2.len, fun m hmo hmt => ?_, fun w hw => ?_⟩, fun w hwu hw hwq y hy => ?_, fun y hy hyo hym => ?_, by simp; omega, by simp; omega⟩, by dsimp only; omega⟩
              · dsimp only at hmt
                rw [hst m hmo.1] at hmt
                by_cases he : m = gt (gt G u) i
                · subst he
                  rcases hur with rfl | ⟨y, e, r⟩
                  · exact ⟨_, hed, .refl _⟩
                  · exact ⟨y, e, r.trans (.one hed)⟩
                · rw [if_neg he] at hmt
                  exact a2.snd m hmo hmt
              · dsimp only at hw ⊢
                rcases List.mem_append.1 hw with hw | hw
                · obtain ⟨b0, b1⟩ := a2.el w hw
                  refine ⟨b0, b1.imp id fun b1 => ?_⟩
                  rw [hst w b0.1, b1]; simp
                · simp at hw
                  subst hw
                  exact ⟨hv, .inr (by rw [hst _ hv.1]; simp)⟩
              · dsimp only at hw hwq ⊢
                rw [hst y hy.2.1.1]
                by_cases hye : y = gt (gt G u) i
                · rw [if_pos hye]
                · rw [if_neg hye]
                  rw [List.mem_append, not_or] at hwq
                  refine a3 w hwu ?_ hwq.1 y hy
                  rcases hw with hw | ⟨hw, hwt⟩
                  · exact .inl hw
                  · rw [hst w hw.1] at hwt
                    by_cases hwe : w = gt (gt G u) i
                    · exact absurd hwq.2 (by simp [hwe])
                    · rw [if_neg hwe] at hwt
                      exact .inr ⟨hw, hwt⟩
              · dsimp only
                rw [hst y hyo.1]
                by_cases hye : y = gt (gt G u) i
                · rw [if_pos hye]
                · rw [if_neg hye]
                  rcases (htake y).1 hy with hy | hy
                  · exact a4 y hy hyo hym
                  · exact absurd hy hye
          · have hm' : may (gt (gt G u) i) = false := by simpa using hm
            rw [hm', if_neg (by simp), jn_inl, if_neg (by simp), jn_inl]
            refine ⟨_, rfl, ⟨by dsimp only; omega, by dsimp only; omega, a2, a3, fun y hy hyo hym => ?_, a5, a6⟩, by dsimp only; omega⟩
            rcases (htake y).1 hy with hy | rfl
            · exact a4 y hy hyo hym
            · exact absurd hym hm
        · rw [decide_eq_false (show ¬ ((0 : Int) ≤ gt (gt G u) i ∧ gt (gt G u) i < (G.length : Int)) from hv), if_neg (by simp), jn_inl, if_neg (by simp), jn_inl, if_neg (by simp), jn_inl]
          refine ⟨_, rfl, ⟨by dsimp only; omega, by dsimp only; omega, a2, a3, fun y hy hyo hym => ?_, a5, a6⟩, by dsimp only; omega⟩
          rcases (htake y).1 hy with hy | rfl
          · exact a4 y hy hyo hym
          · exact absurd hyo hv
      · left
        rw [if_neg hi]
        refine ⟨_, rfl, q, inn, rfl, a2, fun w => ?_, a5, a6⟩
        by_cases hw : w = u
        · subst hw
          intro _ _ y hy
          refine a4 y ?_ hy.2.1 hy.2.2
          rw [List.take_of_length_le (by omega)]
          exact hy.1
        · exact a3 w hw) (q0, inn0, 0) ⟨Int.le_refl _, by dsimp only; omega, h, hc, fun y hy => by simp at hy, hcnt, Nat.le_refl _⟩
  exact ⟨q, inn, hr, h1, h2, h3, h4⟩
theorem reach_run {ok : List Bool} (hN : (G.length : Int) ≤ 1099511627776) (hrow : ∀ r ∈ G, (r.length : Int) ≤ 9223372036854775807)
    (hok : ∀ m, Tj.Ok G m → gt ok m = may m) (hol : ok.length = G.length) (hfr : Tj.Ok G fr) :
    ∃ inn, bailiffref15_Reach.f G fr ok = some inn ∧ inn.length = G.length ∧ ∀ m, Tj.Ok G m → (gt inn m = true ↔ Rc G may fr m) := by
  have hrep : ∀ m, Tj.Ok G m → gt (List.replicate (G.length : Int).toNat false) m = false := fun m hm => by
    have h2 := hm.2
    have := gt_mem (xs := List.replicate (G.length : Int).toNat false) hm.1 (by simp; omega)
    exact (List.mem_replicate.1 this).2
  obtain ⟨r, hr, q, inn, rfl, h1, h2⟩ := iter_meas (body := fun t_ : (List Int) × (List Bool) => bailiffref15_Reach.l0b G ok t_.1 t_.2)
    (fun s => Rs G may fr s.1 s.2 ∧ (∀ w, Shut G may fr s.1 s.2 w) ∧ s.1.length + s.2.count false ≤ G.length + 1)
    (fun r => ∃ q inn, r = .inl (q, inn) ∧ Rs G may fr [] inn ∧ ∀ w, Shut G may fr [] inn w) (fun s => s.1.length + 2 * s.2.count false)
    (fun ⟨stk, inn⟩ ⟨a0, a1, a2⟩ => by
      dsimp only at a0 a1 a2 ⊢
      unfold bailiffref15_Reach.l0b
      by_cases hs : 0 < (stk.length : Int)
      · right
        have hw : IntKind.i64.wrap ((stk.length : Int) - 1) = (stk.length : Int) - 1 := wrap64 (by omega) (by omega)
        have hmem := gt_mem (xs := stk) (i := (stk.length : Int) - 1) (by omega) (by omega)
        obtain ⟨b0, b1⟩ := a0.el _ hmem
        have hpop : ∀ w, w ∈ stk ↔ w ∈ stk.take ((stk.length : Int) - 1).toNat ∨ w = gt stk ((stk.length : Int) - 1) := fun w => by
          have h := gt_some (xs := stk) (i := (stk.length : Int) - 1) (by omega) (by omega)
          have e : stk = stk.take (((stk.length : Int) - 1).toNat + 1) := by rw [List.take_of_length_le (by omega)]
          conv => lhs; rw [e]
          rw [List.take_add_one, h]
          simp
        rw [if_pos hs, if_pos (by rw [hw]; omega), if_pos (by rw [hw]; omega), hw]
        obtain ⟨q, inn', c0, c1, c2, c3, c4⟩ := r1_run (may := may) (fr := fr) (ok := ok) (stk := stk) (q0 := stk.take ((stk.length : Int) - 1).toNat) (inn0 := inn) (u := gt stk ((stk.length : Int) - 1)) (by rw [hw]) hN hrow hok hol b0
          (b1.imp id fun b1 => a0.snd _ b0 b1) ⟨a0.len, a0.snd, fun w hw => a0.el w ((hpop w).2 (.inl hw))⟩
          (fun w hwu hw hwq => a1 w hw fun hm => ((hpop w).1 hm).elim hwq hwu) (by rw [List.length_take]; omega)
        rw [c0, jn_inl]
        refine ⟨_, rfl, ⟨c1, c2, by dsimp only; omega⟩, ?_⟩
        rw [List.length_take] at c4
        dsimp only
        omega
      · left
        rw [if_neg hs]
        have : stk = [] := List.length_eq_zero_iff.1 (by omega)
        subst this
        exact ⟨_, rfl, _, _, rfl, a0, a1⟩) (([fr] : List Int), List.replicate (G.length : Int).toNat false)
    ⟨⟨by simp, fun m hm ht => by rw [hrep m hm] at ht; simp at ht, fun w hw => by simp at hw; subst hw; exact ⟨hfr, .inl rfl⟩⟩,
      fun w hw hwq => by
        rcases hw with rfl | ⟨hw, ht⟩
        · exact absurd (by simp) hwq
        · dsimp only at ht; rw [hrep w hw] at ht; simp at ht,
      by simp; omega⟩
  refine ⟨inn, ?_, h1.len, fun m hm => ⟨h1.snd m hm, ?_⟩⟩
  · unfold bailiffref15_Reach.f
    have hl : bailiffref15_Reach.l0 G ok ([fr] : List Int) (List.replicate (G.length : Int).toNat (false : Bool)) = some (.inl (q, inn)) := hr
    rw [if_pos ⟨by omega, by omega⟩, hl, jn_inl]
  · rintro ⟨y, e, r⟩
    have hy := h2 fr (.inl rfl) (by simp) y e
    have hyo := e.2.1
    clear e hm
    induction r with
    | refl => exact hy
    | step e' _ ih => exact ih (h2 _ (.inr ⟨hyo, hy⟩) (by simp) _ e') e'.2.1
theorem tops15_run {pr : List Int} {n : Int} (hN : (G.length : Int) ≤ 1099511627776) (hrow : ∀ r ∈ G, (r.length : Int) ≤ 9223372036854775807) (hn : Tj.Ok G n) :
    ∃ b, bailiffref15_Tops.f G pr n = some b ∧ (b = true ↔ OnCyc G pr (prio pr n) n) := by
  obtain ⟨r, hr, ok, rfl, h1, h2⟩ := iter_meas (body := fun t_ : (List Bool) × Int => bailiffref15_Tops.l0b G pr n t_.1 t_.2)
    (fun s => 0 ≤ s.2 ∧ s.2 ≤ (G.length : Int) ∧ s.1.length = G.length ∧ ∀ m, 0 ≤ m → m < s.2 → gt s.1 m = upto pr (prio pr n) m)
    (fun r => ∃ ok, r = .inl ok ∧ ok.length = G.length ∧ ∀ m, Tj.Ok G m → gt ok m = upto pr (prio pr n) m) (fun s => (G.length - s.2).toNat)
    (fun ⟨ok, i⟩ ⟨a0, a1, a2, a3⟩ => by
      dsimp only at a0 a1 a2 a3 ⊢
      unfold bailiffref15_Tops.l0b
      by_cases hi : i < (G.length : Int)
      · right
        rw [if_pos hi, of_run a0, of_run hn.1]
        simp only [Option.bind_some]
        rw [if_pos (by simp; omega), wrap64 (x := i + 1) (by omega) (by omega)]
        refine ⟨_, rfl, ⟨by dsimp only; omega, by dsimp only; omega, by dsimp only; rw [st_len]; exact a2, fun m hm0 hm1 => ?_⟩, by dsimp only; omega⟩
        dsimp only at hm1 ⊢
        rw [gt_st a0 (by omega) hm0]
        by_cases he : m = i
        · subst he; rw [if_pos rfl]; rfl
        · rw [if_neg he]; exact a3 m hm0 (by omega)
      · left
        rw [if_neg hi]
        exact ⟨_, rfl, ok, rfl, a2, fun m hm => a3 m hm.1 (by have := hm.2; omega)⟩) (List.replicate (G.length : Int).toNat false, 0) ⟨Int.le_refl _, by dsimp only; omega, by simp, fun m h0 h1 => by dsimp only at h1; omega⟩
  obtain ⟨inn, c0, c1, c2⟩ := reach_run (may := upto pr (prio pr n)) (fr := n) (ok := ok) hN hrow h2 h1 hn
  refine ⟨gt inn n, ?_, c2 n hn⟩
  unfold bailiffref15_Tops.f
  have hl : bailiffref15_Tops.l0 G pr n (List.replicate (G.length : Int).toNat (false : Bool)) 0 = some (.inl ok) := hr
  have hn2 := hn.2
  rw [if_pos ⟨by omega, by omega⟩, hl, jn_inl, c0]
  simp only [Option.bind_some]
  rw [if_pos ⟨hn.1, by simp; omega⟩]
theorem bad15_run {pr : List Int} {q : Int} (hN : (G.length : Int) ≤ 1099511627776) (hrow : ∀ r ∈ G, (r.length : Int) ≤ 9223372036854775807) :
    ∃ f, bailiffref15_Bad.f G pr q = some f ∧ Mn f (fun x => Tj.Ok G x ∧ par (prio pr x) q ∧ OnCyc G pr (prio pr x) x) := by
  obtain ⟨r, hr, hq⟩ := iter_meas (body := fun t_ : Int => bailiffref15_Bad.l0b G pr q t_)
    (fun i => 0 ≤ i ∧ i ≤ (G.length : Int) ∧ ∀ x, 0 ≤ x → x < i → ¬ (par (prio pr x) q ∧ OnCyc G pr (prio pr x) x))
    (fun r => (r = .inl () ∧ ∀ x, Tj.Ok G x → ¬ (par (prio pr x) q ∧ OnCyc G pr (prio pr x) x)) ∨ ∃ f, r = .inr f ∧ Mn f (fun x => Tj.Ok G x ∧ par (prio pr x) q ∧ OnCyc G pr (prio pr x) x)) (fun i => (G.length - i).toNat)
    (fun i ⟨a0, a1, a2⟩ => by
      unfold bailiffref15_Bad.l0b
      by_cases hi : i < (G.length : Int)
      · obtain ⟨b, hb, hb'⟩ := tops15_run (pr := pr) hN hrow (n := i) ⟨a0, hi⟩
        rw [if_pos hi, of_run a0, wrap64 (x := i + 1) (by omega) (by omega)]
        simp only [Option.bind_some]
        have hgo : ¬ (par (prio pr i) q ∧ OnCyc G pr (prio pr i) i) → ∀ x, 0 ≤ x → x < i + 1 → ¬ (par (prio pr x) q ∧ OnCyc G pr (prio pr x) x) := fun h x h0 h1 => by
          by_cases hx : x = i
          · subst hx; exact h
          · exact a2 x h0 (by omega)
        by_cases hp : par (prio pr i) q
        · rw [if_pos (show band .i64 (prio pr i) 1 = band .i64 q 1 from hp), hb]
          simp only [Option.bind_some]
          cases b with
          | true =>
            left
            exact ⟨_, rfl, .inr ⟨i, rfl, fun n hn => hn.1.1, .inr ⟨⟨⟨a0, hi⟩, hp, hb'.1 rfl⟩, fun n hn => Int.not_lt.1 fun hlt => a2 n hn.1.1 hlt hn.2⟩⟩⟩
          | false =>
            right
            rw [if_neg (by simp), jn_inl]
            exact ⟨_, rfl, ⟨by omega, by omega, hgo fun h => by have := hb'.2 h.2; simp at this⟩, by omega⟩
        · right
          rw [if_neg (show ¬ band .i64 (prio pr i) 1 = band .i64 q 1 from hp), jn_inl]
          exact ⟨_, rfl, ⟨by omega, by omega, hgo fun h => hp h.1⟩, by omega⟩
      · left
        rw [if_neg hi]
        exact ⟨_, rfl, .inl ⟨rfl, fun x hx => a2 x hx.1 (by have := hx.2; omega)⟩⟩) 0 ⟨Int.le_refl _, by omega, fun x h0 h1 => by omega⟩
  have hl : bailiffref15_Bad.l0 G pr q 0 = some r := hr
  unfold bailiffref15_Bad.f
  rw [hl]
  rcases hq with ⟨rfl, h⟩ | ⟨f, rfl, h⟩
  · exact ⟨-1, rfl, fun n hn => hn.1.1, .inl ⟨rfl, fun n hn => h n hn.1 hn.2⟩⟩
  · exact ⟨f, rfl, h⟩
end
end Go.Bw
