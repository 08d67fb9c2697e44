/- cycles.Bad, as its model tells it: the first node of the parity that tops a cycle. Conditions: none. -/
import Derived.Test.YtmkidaijgdgcjaaBwCyc2
set_option linter.unusedVariables false
set_option linter.unusedSimpArgs false
set_option linter.unusedSectionVars false
namespace Go.Bw
open Go Go.RowKit Tj

theorem index_none {xs : List Int} {a : Int} (hn : a ∉ xs) (hb : (xs.length : Int) ≤ 9223372036854775807) : slices_Index_int_int.f xs a = some (-1) := by
  obtain ⟨r, hr, hq⟩ := iter_meas (body := fun t_ : Int => slices_Index_int_int.l0b xs a t_) (fun i => 0 ≤ i ∧ i ≤ (xs.length : Int)) (fun r => r = .inl ()) (fun i => (xs.length - i).toNat) (fun i ⟨h0, h1⟩ => by
    try dsimp only
    unfold slices_Index_int_int.l0b
    by_cases hi : i < (xs.length : Int)
    · right
      rw [if_pos hi, if_pos ⟨h0, hi⟩, if_neg (fun e => hn (by rw [e]; exact gt_mem h0 hi)), wrap64 (by omega) (by omega)]
      exact ⟨_, rfl, by omega, by omega⟩
    · left
      rw [if_neg hi]
      exact ⟨_, rfl, rfl⟩) 0 ⟨Int.le_refl _, by omega⟩
  unfold slices_Index_int_int.f slices_Index_int_int.l0
  rw [hr, hq]
  rfl
theorem contains_run {xs : List Int} {a : Int} (hb : (xs.length : Int) ≤ 9223372036854775807) : slices_Contains_int_int.f xs a = some (decide (a ∈ xs)) := by
  unfold slices_Contains_int_int.f
  by_cases h : a ∈ xs
  · obtain ⟨s1, s2, rfl, hn⟩ := List.eq_append_cons_of_mem h
    rw [index_run hn hb]
    simp only [Option.bind_some]
    simp
  · rw [index_none h hb]
    simp only [Option.bind_some]
    simp [h]
/-- The priority of a node. -/
def prio (pr : List Int) (n : Int) : Int := if n < (pr.length : Int) then gt pr n else 0
theorem prio_run {pr : List Int} {n : Int} (h0 : 0 ≤ n) : cycles_Bad_1.f n pr = some (prio pr n) := by
  unfold cycles_Bad_1.f prio
  by_cases h : n < (pr.length : Int)
  · rw [if_pos h, if_pos ⟨h0, h⟩, if_pos h]
  · rw [if_neg h, if_neg h]
theorem upto_run {pr : List Int} {n lv : Int} (h0 : 0 ≤ n) : cycles_Bad_2.f n pr lv = some (decide (prio pr n ≤ lv)) := by
  unfold cycles_Bad_2.f
  rw [prio_run h0]
  rfl
def par (x y : Int) : Prop := band .i64 x 1 = band .i64 y 1
instance (x y : Int) : Decidable (par x y) := by unfold par; infer_instance
theorem levels_run {G : List (List Int)} {pr : List Int} {q : Int} (hN : (G.length : Int) ≤ 1099511627776) :
    ∃ lv, cycles_Bad.l0 G pr q [] 0 = some (.inl lv) ∧ (lv.length : Int) ≤ G.length ∧ ∀ x, x ∈ lv ↔ ∃ n, Tj.Ok G n ∧ prio pr n = x ∧ par x q := by
  obtain ⟨r, hr, lv, rfl, h1, h2⟩ := iter_meas (body := fun t_ : (List Int) × Int => cycles_Bad.l0b G pr q t_.1 t_.2)
    (fun s => 0 ≤ s.2 ∧ s.2 ≤ (G.length : Int) ∧ (s.1.length : Int) ≤ s.2 ∧ s.1.Nodup ∧ ∀ x, x ∈ s.1 ↔ ∃ n, 0 ≤ n ∧ n < s.2 ∧ prio pr n = x ∧ par x q)
    (fun r => ∃ lv, r = .inl lv ∧ (lv.length : Int) ≤ G.length ∧ ∀ x, x ∈ lv ↔ ∃ n, Tj.Ok G n ∧ prio pr n = x ∧ par x q) (fun s => (G.length - s.2).toNat)
    (fun ⟨l, i⟩ ⟨h0, h1, h2, h3, h4⟩ => by
      dsimp only at h0 h1 h2 h3 h4 ⊢
      unfold cycles_Bad.l0b
      have hext : ∀ x, (∃ n, 0 ≤ n ∧ n < i + 1 ∧ prio pr n = x ∧ par x q) ↔ (x ∈ l ∨ (prio pr i = x ∧ par x q)) := fun x => by
        rw [h4]
        constructor
        · rintro ⟨n, a, b, c, d⟩
          by_cases hni : n = i
          · subst hni; exact .inr ⟨c, d⟩
          · exact .inl ⟨n, a, by omega, c, d⟩
        · rintro (⟨n, a, b, c, d⟩ | ⟨c, d⟩)
          · exact ⟨n, a, by omega, c, d⟩
          · exact ⟨i, h0, by omega, c, d⟩
      by_cases hi : i < (G.length : Int)
      · right
        rw [if_pos hi, prio_run h0]
        simp only [Option.bind_some]
        rw [wrap64 (x := i + 1) (by omega) (by omega)]
        by_cases hp : par (prio pr i) q
        · rw [if_pos (show band .i64 (prio pr i) 1 = band .i64 q 1 from hp), contains_run (by omega)]
          simp only [Option.bind_some]
          rw [jn_inl]
          by_cases hm : prio pr i ∈ l
          · rw [if_neg (by simp [hm]), jn_inl]
            refine ⟨_, rfl, ⟨by dsimp only; omega, by dsimp only; omega, by dsimp only; omega, h3, fun x => ?_⟩, by dsimp only; omega⟩
            dsimp only
            rw [hext]
            constructor
            · exact .inl
            · rintro (h | ⟨rfl, _⟩)
              · exact h
              · exact hm
          · rw [if_pos (by simp [hm]), if_pos (by simp; omega), jn_inl]
            refine ⟨_, rfl, ⟨by dsimp only; omega, by dsimp only; omega, by dsimp only; simp; omega, ?_, fun x => ?_⟩, by dsimp only; omega⟩
            · dsimp only
              rw [List.nodup_append]
              refine ⟨h3, by simp, fun a ha b hb e => ?_⟩
              simp at hb
              subst hb
              subst e
              exact hm ha
            · dsimp only
              rw [hext, List.mem_append]
              simp
              constructor
              · rintro (h | rfl)
                · exact .inl h
                · exact .inr ⟨rfl, hp⟩
              · rintro (h | ⟨h, _⟩)
                · exact .inl h
                · exact .inr h.symm
        · rw [if_neg (show ¬ band .i64 (prio pr i) 1 = band .i64 q 1 from hp), jn_inl, if_neg (by simp), jn_inl]
          refine ⟨_, rfl, ⟨by dsimp only; omega, by dsimp only; omega, by dsimp only; omega, h3, fun x => ?_⟩, by dsimp only; omega⟩
          dsimp only
          rw [hext]
          constructor
          · exact .inl
          · rintro (h | ⟨rfl, h⟩)
            · exact h
            · exact absurd h hp
      · left
        rw [if_neg hi]
        refine ⟨_, rfl, l, rfl, by omega, fun x => ?_⟩
        rw [h4]
        have : i = G.length := by omega
        subst this
        constructor
        · rintro ⟨n, a, b, c⟩; exact ⟨n, ⟨a, b⟩, c⟩
        · rintro ⟨n, ⟨a, b⟩, c⟩; exact ⟨n, a, b, c⟩) ([], 0) ⟨Int.le_refl _, by omega, by simp, by simp, fun x => by simp; intro n h1 h2; omega⟩
  exact ⟨lv, hr, h1, h2⟩
/-- The least of a set of nodes; -1: there is none. -/
def Mn (f : Int) (S : Int → Prop) : Prop := (∀ n, S n → 0 ≤ n) ∧ ((f = -1 ∧ ∀ n, ¬ S n) ∨ (S f ∧ ∀ n, S n → f ≤ n))
theorem Mn.same {f : Int} {S T : Int → Prop} (h : Mn f S) (e : ∀ x, T x ↔ S x) : Mn f T := by
  have : T = S := funext fun x => propext (e x)
  rw [this]; exact h
theorem Mn.add {f n : Int} {S : Int → Prop} (h : Mn f S) (hn : 0 ≤ n) : Mn (if f < 0 ∨ n < f then n else f) (fun x => S x ∨ x = n) := by
  obtain ⟨h0, h⟩ := h
  refine ⟨fun x hx => hx.elim (h0 x) (fun e => by omega), ?_⟩
  rcases h with ⟨rfl, h⟩ | ⟨h1, h2⟩
  · rw [if_pos (by omega)]
    exact .inr ⟨.inr rfl, fun x hx => hx.elim (fun hs => absurd hs (h x)) (fun e => by omega)⟩
  · have := h0 f h1
    by_cases hlt : n < f
    · rw [if_pos (.inr hlt)]
      exact .inr ⟨.inr rfl, fun x hx => hx.elim (fun hs => by have := h2 x hs; omega) (fun e => by omega)⟩
    · rw [if_neg (by omega)]
      exact .inr ⟨.inl h1, fun x hx => hx.elim (h2 x) (fun e => by omega)⟩
/-- What tops a cycle among a part's nodes. -/
def Tops (G : List (List Int)) (pr : List Int) (lv : Int) (p : List Int) (x : Int) : Prop := prio pr x = lv ∧ (1 < p.length ∨ x ∈ gt G x)
section
variable {G : List (List Int)} {pr lvs : List Int} {out : List (List Int)}
theorem l3b_run {ix ip f i n : Int} (hi0 : 0 ≤ i) (hi : i < ((gt out ip).length : Int)) (hx : gt (gt out ip) i = n) (hn : Tj.Ok G n) (hl : i + 1 ≤ 9223372036854775807) (hrow : ∀ r ∈ G, (r.length : Int) ≤ 9223372036854775807) :
    (Tops G pr (gt lvs ix) (gt out ip) n → cycles_Bad.l3b G pr lvs ix out ip f i = some (.inl (if f < 0 ∨ n < f then n else f, i + 1))) ∧
    (¬ Tops G pr (gt lvs ix) (gt out ip) n → cycles_Bad.l3b G pr lvs ix out ip f i = some (.inl (f, i + 1))) := by
  have hc : slices_Contains_int_int.f (gt G n) n = some (decide (n ∈ gt G n)) := contains_run (hrow _ (gt_mem hn.1 hn.2))
  have hw : IntKind.i64.wrap (i + 1) = i + 1 := wrap64 (by omega) (by omega)
  constructor
  · rintro ⟨h1, h2⟩
    unfold cycles_Bad.l3b
    rw [if_pos hi, if_pos ⟨hi0, hi⟩, hx, prio_run hn.1, hw]
    simp only [Option.bind_some]
    rw [if_pos h1]
    by_cases h3 : 1 < (gt out ip).length
    · rw [if_pos (by omega), jn_inl, jn_inl, if_pos rfl]
      by_cases h4 : f < 0
      · rw [if_pos h4, jn_inl, jn_inl, if_pos rfl, jn_inl, if_pos (.inl h4)]; rfl
      · rw [if_neg h4, jn_inl, jn_inl]
        by_cases h5 : n < f
        · rw [if_pos (by simp [h5]), jn_inl, if_pos (.inr h5)]; rfl
        · rw [if_neg (by simp [h5]), jn_inl, if_neg (by omega)]; rfl
    · have h6 : n ∈ gt G n := h2.resolve_left h3
      rw [if_neg (by omega), if_pos (show (0 : Int) ≤ n ∧ n < (G.length : Int) from hn), hc]
      simp only [Option.bind_some]
      rw [jn_inl, jn_inl, if_pos (by simp [h6])]
      by_cases h4 : f < 0
      · rw [if_pos h4, jn_inl, jn_inl, if_pos rfl, jn_inl, if_pos (.inl h4)]; rfl
      · rw [if_neg h4, jn_inl, jn_inl]
        by_cases h5 : n < f
        · rw [if_pos (by simp [h5]), jn_inl, if_pos (.inr h5)]; rfl
        · rw [if_neg (by simp [h5]), jn_inl, if_neg (by omega)]; rfl
  · intro hT
    unfold cycles_Bad.l3b
    rw [if_pos hi, if_pos ⟨hi0, hi⟩, hx, prio_run hn.1, hw]
    simp only [Option.bind_some]
    by_cases h1 : prio pr n = gt lvs ix
    · have h3 : ¬ 1 < (gt out ip).length := fun h => hT ⟨h1, .inl h⟩
      have h6 : n ∉ gt G n := fun h => hT ⟨h1, .inr h⟩
      rw [if_pos h1, if_neg (by omega), if_pos (show (0 : Int) ≤ n ∧ n < (G.length : Int) from hn), hc]
      simp only [Option.bind_some]
      rw [jn_inl, jn_inl, if_neg (by simp [h6]), jn_inl, if_neg (by simp), jn_inl]
      rfl
    · rw [if_neg h1, jn_inl, if_neg (by simp), jn_inl, if_neg (by simp), jn_inl]
      rfl
theorem l3_run {ix ip f : Int} {S : Int → Prop} (hf : Mn f S) (hp : ∀ x ∈ gt out ip, Tj.Ok G x) (hl : ((gt out ip).length : Int) ≤ 9223372036854775807) (hrow : ∀ r ∈ G, (r.length : Int) ≤ 9223372036854775807) :
    ∃ f', cycles_Bad.l3 G pr lvs ix out ip f 0 = some (.inl f') ∧ Mn f' (fun x => S x ∨ (x ∈ gt out ip ∧ Tops G pr (gt lvs ix) (gt out ip) x)) := by
  obtain ⟨r, hr, f', rfl, h1⟩ := iter_meas (body := fun t_ : Int × Int => cycles_Bad.l3b G pr lvs ix out ip t_.1 t_.2)
    (fun s => 0 ≤ s.2 ∧ s.2 ≤ ((gt out ip).length : Int) ∧ Mn s.1 (fun x => S x ∨ (x ∈ (gt out ip).take s.2.toNat ∧ Tops G pr (gt lvs ix) (gt out ip) x)))
    (fun r => ∃ f', r = .inl f' ∧ Mn f' (fun x => S x ∨ (x ∈ gt out ip ∧ Tops G pr (gt lvs ix) (gt out ip) x))) (fun s => ((gt out ip).length - s.2).toNat)
    (fun ⟨f, i⟩ ⟨h0, h1, h2⟩ => by
      dsimp only at h0 h1 h2 ⊢
      by_cases hi : i < ((gt out ip).length : Int)
      · right
        have hok : Tj.Ok G (gt (gt out ip) i) := hp _ (gt_mem h0 hi)
        have htake : ∀ x, x ∈ (gt out ip).take (i + 1).toNat ↔ x ∈ (gt out ip).take i.toNat ∨ x = gt (gt out ip) i := fun x => by
          rw [show (i + 1).toNat = i.toNat + 1 from by omega, List.take_add_one, gt_some h0 hi]
          simp
        obtain ⟨ha, hb⟩ := l3b_run (G := G) (pr := pr) (lvs := lvs) (ix := ix) (f := f) h0 hi rfl hok (by omega) hrow
        by_cases hT : Tops G pr (gt lvs ix) (gt out ip) (gt (gt out ip) i)
        · refine ⟨_, ha hT, ⟨by dsimp only; omega, by dsimp only; omega, (h2.add hok.1).same fun x => ?_⟩, by dsimp only; omega⟩
          dsimp only
          rw [htake]
          constructor
          · rintro (h | ⟨h | h, ht⟩)
            · exact .inl (.inl h)
            · exact .inl (.inr ⟨h, ht⟩)
            · exact .inr h
          · rintro ((h | ⟨h, ht⟩) | h)
            · exact .inl h
            · exact .inr ⟨.inl h, ht⟩
            · exact .inr ⟨.inr h, by rw [h]; exact hT⟩
        · refine ⟨_, hb hT, ⟨by dsimp only; omega, by dsimp only; omega, h2.same fun x => ?_⟩, by dsimp only; omega⟩
          dsimp only
          rw [htake]
          constructor
          · rintro (h | ⟨h | h, ht⟩)
            · exact .inl h
            · exact .inr ⟨h, ht⟩
            · rw [h] at ht; exact absurd ht hT
          · rintro (h | ⟨h, ht⟩)
            · exact .inl h
            · exact .inr ⟨.inl h, ht⟩
      · left
        unfold cycles_Bad.l3b
        rw [if_neg hi]
        refine ⟨_, rfl, f, rfl, h2.same fun x => ?_⟩
        rw [List.take_of_length_le (by omega)]) (f, 0) ⟨Int.le_refl _, by omega, hf.same fun x => by simp⟩
  exact ⟨f', hr, h1⟩
theorem l2_run {ix f : Int} {S : Int → Prop} (hf : Mn f S) (hp : ∀ p ∈ out, (∀ x ∈ p, Tj.Ok G x) ∧ (p.length : Int) ≤ 9223372036854775807) (ho : (out.length : Int) ≤ 9223372036854775807) (hrow : ∀ r ∈ G, (r.length : Int) ≤ 9223372036854775807) :
    ∃ f', cycles_Bad.l2 G pr lvs ix out f 0 = some (.inl f') ∧ Mn f' (fun x => S x ∨ ∃ p ∈ out, x ∈ p ∧ Tops G pr (gt lvs ix) p x) := by
  obtain ⟨r, hr, f', rfl, h1⟩ := iter_meas (body := fun t_ : Int × Int => cycles_Bad.l2b G pr lvs ix out t_.1 t_.2)
    (fun s => 0 ≤ s.2 ∧ s.2 ≤ (out.length : Int) ∧ Mn s.1 (fun x => S x ∨ ∃ p ∈ out.take s.2.toNat, x ∈ p ∧ Tops G pr (gt lvs ix) p x))
    (fun r => ∃ f', r = .inl f' ∧ Mn f' (fun x => S x ∨ ∃ p ∈ out, x ∈ p ∧ Tops G pr (gt lvs ix) p x)) (fun s => (out.length - s.2).toNat)
    (fun ⟨f, i⟩ ⟨h0, h1, h2⟩ => by
      dsimp only at h0 h1 h2 ⊢
      unfold cycles_Bad.l2b
      by_cases hi : i < (out.length : Int)
      · right
        have hm := gt_mem h0 hi
        have htake : ∀ p, p ∈ out.take (i + 1).toNat ↔ p ∈ out.take i.toNat ∨ p = gt out i := fun x => by
          rw [show (i + 1).toNat = i.toNat + 1 from by omega, List.take_add_one, gt_some h0 hi]
          simp
        obtain ⟨f', e1, e2⟩ := l3_run (G := G) (pr := pr) (lvs := lvs) (ix := ix) (ip := i) h2 (hp _ hm).1 (hp _ hm).2 hrow
        rw [if_pos hi, if_pos ⟨h0, hi⟩, e1, jn_inl, wrap64 (x := i + 1) (by omega) (by omega)]
        refine ⟨_, rfl, ⟨by dsimp only; omega, by dsimp only; omega, e2.same fun x => ?_⟩, by dsimp only; omega⟩
        dsimp only
        constructor
        · rintro (h | ⟨p, hp, ht⟩)
          · exact .inl (.inl h)
          · rcases (htake p).1 hp with h | rfl
            · exact .inl (.inr ⟨p, h, ht⟩)
            · exact .inr ht
        · rintro ((h | ⟨p, hp, ht⟩) | ht)
          · exact .inl h
          · exact .inr ⟨p, (htake p).2 (.inl hp), ht⟩
          · exact .inr ⟨_, (htake _).2 (.inr rfl), ht⟩
      · left
        rw [if_neg hi]
        refine ⟨_, rfl, f, rfl, h2.same fun x => ?_⟩
        rw [List.take_of_length_le (by omega)]) (f, 0) ⟨Int.le_refl _, by omega, hf.same fun x => by simp⟩
  exact ⟨f', hr, h1⟩
/-- The nodes of a priority no greater. -/
def upto (pr : List Int) (lv : Int) (m : Int) : Bool := decide (prio pr m ≤ lv)
/-- A node comes behind itself among the nodes of its priority or less. -/
def OnCyc (G : List (List Int)) (pr : List Int) (lv x : Int) : Prop := ∃ y, Ed G (upto pr lv) x y ∧ Rch G (upto pr lv) y x
theorem rch_first {may : Int → Bool} {x y : Int} (h : Rch G may x y) (hne : x ≠ y) : ∃ z, Ed G may x z ∧ Rch G may z y := by
  cases h with
  | refl => exact absurd rfl hne
  | step e r => exact ⟨_, e, r⟩
theorem tops_iff {lv : Int} (hP : Parts G (upto pr lv) out) {p : List Int} (hp : p ∈ out) {x : Int} (hx : x ∈ p) : Tops G pr lv p x ↔ prio pr x = lv ∧ OnCyc G pr lv x := by
  unfold Tops
  refine and_congr_right fun hl => ⟨?_, ?_⟩
  · rintro (h | h)
    · have hnd : p.Nodup := (hP.asc p hp).imp fun {a b} h e => by omega
      obtain ⟨y, hy, hyx⟩ : ∃ y ∈ p, y ≠ x := by
        match p, h, hnd with
        | a :: b :: l, _, hnd =>
          by_cases hax : a = x
          · refine ⟨b, by simp, fun e => ?_⟩
            rw [List.nodup_cons] at hnd
            exact hnd.1 (by rw [hax, ← e]; simp)
          · exact ⟨a, by simp, hax⟩
      obtain ⟨h1, h2⟩ := (hP.cls p hp x hx y).1 hy
      obtain ⟨z, e, r⟩ := rch_first h1 (fun e => hyx e.symm)
      exact ⟨z, e, r.trans h2⟩
    · exact ⟨x, ⟨h, hP.el p hp x hx⟩, .refl x⟩
  · rintro ⟨y, e, r⟩
    by_cases hyx : y = x
    · right; rw [← hyx]; have := e.1; rwa [hyx] at this ⊢
    · left
      have hy : y ∈ p := (hP.cls p hp x hx y).2 ⟨.one e, r⟩
      match p, hx, hy with
      | [a], hx, hy => simp at hx hy; exact absurd (hy.trans hx.symm) hyx
      | a :: b :: l, _, _ => simp
theorem mem_byHead {l : List (List Int)} {p : List Int} : p ∈ byHead l ↔ p ∈ l := (List.mergeSort_perm _ _).mem_iff
theorem bad_run {q : Int} (hN : (G.length : Int) ≤ 1099511627776) (hrow : ∀ r ∈ G, (r.length : Int) ≤ 9223372036854775807) :
    ∃ f, cycles_Bad.f G pr q = some f ∧ Mn f (fun x => Tj.Ok G x ∧ par (prio pr x) q ∧ OnCyc G pr (prio pr x) x) := by
  obtain ⟨lvs, e0, hnd, hlv⟩ := levels_run (G := G) (pr := pr) (q := q) hN
  unfold cycles_Bad.f
  rw [e0, jn_inl]
  have hll : (lvs.length : Int) ≤ 9223372036854775807 := by omega
  obtain ⟨r, hr, f', rfl, h1⟩ := iter_meas (body := fun t_ : Int × Int => cycles_Bad.l1b G pr lvs t_.1 t_.2)
    (fun s => 0 ≤ s.2 ∧ s.2 ≤ (lvs.length : Int) ∧ Mn s.1 (fun x => ∃ lv ∈ lvs.take s.2.toNat, Tj.Ok G x ∧ prio pr x = lv ∧ OnCyc G pr lv x))
    (fun r => ∃ f', r = .inl f' ∧ Mn f' (fun x => ∃ lv ∈ lvs, Tj.Ok G x ∧ prio pr x = lv ∧ OnCyc G pr lv x)) (fun s => (lvs.length - s.2).toNat)
    (fun ⟨f, i⟩ ⟨h0, h1, h2⟩ => by
      dsimp only at h0 h1 h2 ⊢
      unfold cycles_Bad.l1b
      by_cases hi : i < (lvs.length : Int)
      · right
        have htake : ∀ p, p ∈ lvs.take (i + 1).toNat ↔ p ∈ lvs.take i.toNat ∨ p = gt lvs i := fun x => by
          rw [show (i + 1).toNat = i.toNat + 1 from by omega, List.take_add_one, gt_some h0 hi]
          simp
        obtain ⟨out, e1, hP⟩ := parts_run2 (may := upto pr (gt lvs i)) (pr := pr) (lv := gt lvs i) hN hrow (fun m hm => upto_run hm.1)
        obtain ⟨f', e2, e3⟩ := l2_run (G := G) (pr := pr) (lvs := lvs) (ix := i) (out := byHead out) h2 (fun p hp => by
          rw [mem_byHead] at hp
          refine ⟨fun x hx => (hP.el p hp x hx).1, ?_⟩
          have := rising_len (a := -1) (c := (G.length : Int) - 1) (hP.asc p hp) (fun x hx => by have := (hP.el p hp x hx).1; unfold Tj.Ok at this; omega) (by omega)
          omega) (by
          have := hP.len
          have : (byHead out).length = out.length := (List.mergeSort_perm _ _).length_eq
          omega) hrow
        rw [if_pos hi, if_pos ⟨h0, hi⟩, e1]
        simp only [Option.bind_some]
        rw [e2, jn_inl, wrap64 (x := i + 1) (by omega) (by omega)]
        refine ⟨_, rfl, ⟨by dsimp only; omega, by dsimp only; omega, e3.same fun x => ?_⟩, by dsimp only; omega⟩
        dsimp only
        constructor
        · rintro ⟨lv, hlv, hx⟩
          rcases (htake lv).1 hlv with h | rfl
          · exact .inl ⟨lv, h, hx⟩
          · obtain ⟨p, hp, hxp⟩ := hP.all x hx.1 (by unfold upto; rw [hx.2.1]; simp)
            exact .inr ⟨p, mem_byHead.2 hp, hxp, (tops_iff hP hp hxp).2 hx.2⟩
        · rintro (⟨lv, hlv, hx⟩ | ⟨p, hp, hxp, ht⟩)
          · exact ⟨lv, (htake lv).2 (.inl hlv), hx⟩
          · rw [mem_byHead] at hp
            exact ⟨_, (htake _).2 (.inr rfl), (hP.el p hp x hxp).1, (tops_iff hP hp hxp).1 ht⟩
      · left
        rw [if_neg hi]
        refine ⟨_, rfl, f, rfl, h2.same fun x => ?_⟩
        rw [List.take_of_length_le (by omega)]) (-1, 0) ⟨Int.le_refl _, by omega, ⟨fun n hn => by obtain ⟨lv, h, _⟩ := hn; simp at h, .inl ⟨rfl, fun n hn => by obtain ⟨lv, h, _⟩ := hn; simp at h⟩⟩⟩
  have hl1 : cycles_Bad.l1 G pr lvs (-1) 0 = some (.inl f') := hr
  rw [hl1, jn_inl]
  refine ⟨f', rfl, h1.same fun x => ?_⟩
  constructor
  · rintro ⟨hx, hp, hc⟩
    exact ⟨prio pr x, (hlv _).2 ⟨x, hx, rfl, hp⟩, hx, rfl, hc⟩
  · rintro ⟨lv, hl, hx, rfl, hc⟩
    obtain ⟨_, _, _, hp⟩ := (hlv _).1 hl
    exact ⟨hx, hp, hc⟩
end
end Go.Bw
