/- CyclesEither, as its model tells it. Conditions: none. -/
import Derived.Test.YtmkidaijgdgcjaaBwBad
import Derived.Test.YtmkidaijgdgcjaaBwEith
set_option linter.unusedVariables false
set_option linter.unusedSimpArgs false
set_option linter.unusedSectionVars false
namespace Go.Bw
open Go Go.RowKit Tj

section
variable {G out : List (List Int)} {on : List Bool}
theorem e3_run {ip ik n : Int} (hn : gt (gt out ip) ik = n) (hok : Tj.Ok G n) (hl : on.length = G.length) (hrow : ∀ r ∈ G, (r.length : Int) ≤ 9223372036854775807) :
    ∃ on', bailifflaw15_CyclesEither.l3 G out ip ik on 0 = some (.inl on') ∧ on'.length = G.length ∧ ∀ y, Tj.Ok G y → gt on' y = if y = n then (gt on n || decide (n ∈ gt G n)) else gt on y := by
  have hlen : ((gt G n).length : Int) ≤ 9223372036854775807 := hrow _ (gt_mem hok.1 hok.2)
  obtain ⟨r, hr, on', rfl, h1, h2⟩ := iter_meas (body := fun t_ : (List Bool) × Int => bailifflaw15_CyclesEither.l3b G out ip ik t_.1 t_.2)
    (fun s => 0 ≤ s.2 ∧ s.2 ≤ ((gt G n).length : Int) ∧ s.1.length = G.length ∧ ∀ y, Tj.Ok G y → gt s.1 y = if y = n then (gt on n || decide (n ∈ (gt G n).take s.2.toNat)) else gt on y)
    (fun r => ∃ on', r = .inl on' ∧ on'.length = G.length ∧ ∀ y, Tj.Ok G y → gt on' y = if y = n then (gt on n || decide (n ∈ gt G n)) else gt on y) (fun s => ((gt G n).length - s.2).toNat)
    (fun ⟨x, i⟩ ⟨h0, h1, h2, h3⟩ => by
      dsimp only at h0 h1 h2 h3 ⊢
      unfold bailifflaw15_CyclesEither.l3b
      rw [hn, if_pos (show (0 : Int) ≤ n ∧ n < (G.length : Int) from hok)]
      have hxn := h3 n hok
      rw [if_pos rfl] at hxn
      by_cases hi : i < ((gt G n).length : Int)
      · right
        have htake : (gt G n).take (i + 1).toNat = (gt G n).take i.toNat ++ [gt (gt G n) i] := by
          rw [show (i + 1).toNat = i.toNat + 1 from by omega, List.take_add_one, gt_some h0 hi]
          rfl
        have hfin : ∀ b : Bool, b = (gt on n || decide (n ∈ (gt G n).take (i + 1).toNat)) → ∀ y, Tj.Ok G y → gt (st x n b) y = if y = n then (gt on n || decide (n ∈ (gt G n).take (i + 1).toNat)) else gt on y := fun b hb y hy => by
          rw [gt_st hok.1 (by rw [h2]; exact hok.2) hy.1, h3 y hy, hb]
          split <;> rfl
        rw [if_pos hi, wrap64 (x := i + 1) (by omega) (by omega)]
        by_cases hb : gt x n = true
        · rw [if_pos hb, jn_inl]
          refine ⟨_, rfl, ⟨by dsimp only; omega, by dsimp only; omega, (st_len _ _ _).trans h2, hfin true ?_⟩, by dsimp only; omega⟩
          rw [hxn] at hb
          rw [htake]
          simp at hb ⊢
          rcases hb with h | h
          · exact .inl h
          · exact .inr (.inl h)
        · rw [if_neg hb, if_pos ⟨h0, hi⟩, jn_inl]
          refine ⟨_, rfl, ⟨by dsimp only; omega, by dsimp only; omega, (st_len _ _ _).trans h2, hfin _ ?_⟩, by dsimp only; omega⟩
          rw [hxn] at hb
          rw [htake]
          simp at hb ⊢
          rw [hb.1]
          simp [hb.2]
          first | done | exact decide_eq_decide.2 eq_comm | exact eq_comm | (simp only [eq_comm])
      · left
        rw [if_neg hi]
        refine ⟨_, rfl, x, rfl, h2, fun y hy => ?_⟩
        rw [h3 y hy, List.take_of_length_le (by omega)]) (on, 0) ⟨Int.le_refl _, by omega, hl, fun y _ => by
          dsimp only
          by_cases h : y = n
          · simp [h]
          · simp [h]⟩
  exact ⟨on', hr, h1, h2⟩
/-- The flag of a node of a part. -/
def Flag (G : List (List Int)) (p : List Int) (x : Int) : Bool := decide (1 < p.length) || decide (x ∈ gt G x)
theorem e2_run {ip : Int} (h0 : 0 ≤ ip) (h1 : ip < (out.length : Int)) (hp : ∀ x ∈ gt out ip, Tj.Ok G x) (hlp : ((gt out ip).length : Int) ≤ 9223372036854775807) (hl : on.length = G.length) (hN : (G.length : Int) ≤ 1099511627776) (hrow : ∀ r ∈ G, (r.length : Int) ≤ 9223372036854775807) :
    ∃ on', bailifflaw15_CyclesEither.l2 G out ip on 0 = some (.inl on') ∧ on'.length = G.length ∧ ∀ y, Tj.Ok G y → gt on' y = if y ∈ gt out ip then Flag G (gt out ip) y else gt on y := by
  obtain ⟨r, hr, on', rfl, h1, h2⟩ := iter_meas (body := fun t_ : (List Bool) × Int => bailifflaw15_CyclesEither.l2b G out ip t_.1 t_.2)
    (fun s => 0 ≤ s.2 ∧ s.2 ≤ ((gt out ip).length : Int) ∧ s.1.length = G.length ∧ ∀ y, Tj.Ok G y → gt s.1 y = if y ∈ (gt out ip).take s.2.toNat then Flag G (gt out ip) y else gt on y)
    (fun r => ∃ on', r = .inl on' ∧ on'.length = G.length ∧ ∀ y, Tj.Ok G y → gt on' y = if y ∈ gt out ip then Flag G (gt out ip) y else gt on y) (fun s => ((gt out ip).length - s.2).toNat)
    (fun ⟨x, i⟩ ⟨a0, a1, a2, a3⟩ => by
      dsimp only at a0 a1 a2 a3 ⊢
      unfold bailifflaw15_CyclesEither.l2b
      rw [if_pos ⟨h0, h1⟩]
      by_cases hi : i < ((gt out ip).length : Int)
      · right
        have hok : Tj.Ok G (gt (gt out ip) i) := hp _ (gt_mem a0 hi)
        obtain ⟨on', e1, e2, e3⟩ := e3_run (G := G) (out := out) (on := st x (gt (gt out ip) i) (decide (1 < ((gt out ip).length : Int)))) (ip := ip) (ik := i) rfl hok ((st_len _ _ _).trans a2) hrow
        rw [if_pos hi, if_pos ⟨a0, hi⟩, if_neg (by have := hok.1; omega), jn_inl, if_neg (by simp; have := hok.2; omega), if_pos ⟨hok.1, by simp; have := hok.2; omega⟩, e1, jn_inl, wrap64 (x := i + 1) (by omega) (by omega)]
        refine ⟨_, rfl, ⟨by dsimp only; omega, by dsimp only; omega, e2, fun y hy => ?_⟩, by dsimp only; omega⟩
        dsimp only
        have hxl : gt (gt out ip) i < (x.length : Int) := by rw [a2]; exact hok.2
        rw [e3 y hy, gt_st hok.1 hxl hok.1, gt_st hok.1 hxl hy.1, if_pos rfl, show (i + 1).toNat = i.toNat + 1 from by omega, List.take_add_one, gt_some a0 hi, a3 y hy]
        by_cases hyn : y = gt (gt out ip) i
        · rw [if_pos hyn, if_pos (by simp [hyn])]
          unfold Flag
          rw [hyn]
          congr 1
          exact decide_eq_decide.2 (by omega)
        · rw [if_neg hyn, if_neg hyn]
          simp [hyn]
      · left
        rw [if_neg hi]
        refine ⟨_, rfl, x, rfl, a2, fun y hy => ?_⟩
        rw [a3 y hy, List.take_of_length_le (by omega)]) (on, 0) ⟨Int.le_refl _, by omega, hl, fun y _ => by simp⟩
  exact ⟨on', hr, h1, h2⟩
theorem parts_eq {may : Int → Bool} (hP : Parts G may out) {p q : List Int} (hp : p ∈ out) (hq : q ∈ out) {y : Int} (h1 : y ∈ p) (h2 : y ∈ q) : p = q := by
  have hm : ∀ z, z ∈ p ↔ z ∈ q := fun z => by rw [hP.cls p hp y h1 z, hP.cls q hq y h2 z]
  have n1 : p.Nodup := (hP.asc p hp).imp fun {a b} h e => by omega
  have n2 : q.Nodup := (hP.asc q hq).imp fun {a b} h e => by omega
  exact List.Perm.eq_of_pairwise (le := (· < ·)) (fun a b _ _ h h' => by omega) (hP.asc p hp) (hP.asc q hq) ((List.perm_ext_iff_of_nodup n1 n2).2 hm)
theorem e0_run {may : Int → Bool} (hP : Parts G may out) (hl : on.length = G.length) (hN : (G.length : Int) ≤ 1099511627776) (hrow : ∀ r ∈ G, (r.length : Int) ≤ 9223372036854775807) :
    ∃ on', bailifflaw15_CyclesEither.l0 G (byHead out) on 0 = some (.inl on') ∧ on'.length = G.length ∧ ∀ p ∈ out, ∀ y ∈ p, gt on' y = Flag G p y := by
  have hbl : (byHead out).length = out.length := (List.mergeSort_perm _ _).length_eq
  have hol := hP.len
  obtain ⟨r, hr, on', rfl, h1, h2⟩ := iter_meas (body := fun t_ : (List Bool) × Int => bailifflaw15_CyclesEither.l0b G (byHead out) t_.1 t_.2)
    (fun s => 0 ≤ s.2 ∧ s.2 ≤ ((byHead out).length : Int) ∧ s.1.length = G.length ∧ ∀ p ∈ (byHead out).take s.2.toNat, ∀ y ∈ p, gt s.1 y = Flag G p y)
    (fun r => ∃ on', r = .inl on' ∧ on'.length = G.length ∧ ∀ p ∈ out, ∀ y ∈ p, gt on' y = Flag G p y) (fun s => ((byHead out).length - s.2).toNat)
    (fun ⟨x, i⟩ ⟨a0, a1, a2, a3⟩ => by
      dsimp only at a0 a1 a2 a3 ⊢
      unfold bailifflaw15_CyclesEither.l0b
      by_cases hi : i < ((byHead out).length : Int)
      · right
        have hq : gt (byHead out) i ∈ out := mem_byHead.1 (gt_mem a0 hi)
        have hlq : ((gt (byHead out) i).length : Int) ≤ 9223372036854775807 := by
          have := rising_len (a := -1) (c := (G.length : Int) - 1) (hP.asc _ hq) (fun x hx => by have := (hP.el _ hq x hx).1; unfold Tj.Ok at this; omega) (by omega)
          omega
        obtain ⟨on', e1, e2, e3⟩ := e2_run (G := G) (out := byHead out) (on := x) a0 hi (fun y hy => (hP.el _ hq y hy).1) hlq a2 hN hrow
        rw [if_pos hi, e1, jn_inl, wrap64 (x := i + 1) (by omega) (by omega)]
        refine ⟨_, rfl, ⟨by dsimp only; omega, by dsimp only; omega, e2, fun p hp y hy => ?_⟩, by dsimp only; omega⟩
        dsimp only at hp ⊢
        rw [show (i + 1).toNat = i.toNat + 1 from by omega, List.take_add_one, gt_some a0 hi] at hp
        have hpo : p ∈ out := by
          rcases List.mem_append.1 hp with h | h
          · exact mem_byHead.1 (List.mem_of_mem_take h)
          · simp at h; rw [h]; exact hq
        rw [e3 y (hP.el p hpo y hy).1]
        by_cases hyq : y ∈ gt (byHead out) i
        · rw [if_pos hyq, parts_eq hP hpo hq hy hyq]
        · rw [if_neg hyq]
          rcases List.mem_append.1 hp with h | h
          · exact a3 p h y hy
          · simp at h; rw [h] at hy; exact absurd hy hyq
      · left
        rw [if_neg hi]
        refine ⟨_, rfl, x, rfl, a2, fun p hp y hy => a3 p ?_ y hy⟩
        rw [List.take_of_length_le (by omega)]
        exact mem_byHead.2 hp) (on, 0) ⟨Int.le_refl _, by omega, hl, fun p hp => by simp at hp⟩
  exact ⟨on', hr, h1, h2⟩
theorem e1_run (hl : on.length = G.length) (hN : (G.length : Int) ≤ 1099511627776) :
    ∃ f, bailifflaw15_CyclesEither.l1 G on (-1) ((G.length : Int) - 1) = some (.inl f) ∧ Mn f (fun y => Tj.Ok G y ∧ gt on y = true) := by
  obtain ⟨r, hr, f, rfl, h1⟩ := iter_meas (body := fun t_ : Int × Int => bailifflaw15_CyclesEither.l1b G on t_.1 t_.2)
    (fun s => -1 ≤ s.2 ∧ s.2 < (G.length : Int) ∧ Mn s.1 (fun y => s.2 < y ∧ Tj.Ok G y ∧ gt on y = true))
    (fun r => ∃ f, r = .inl f ∧ Mn f (fun y => Tj.Ok G y ∧ gt on y = true)) (fun s => (s.2 + 1).toNat)
    (fun ⟨f, i⟩ ⟨a0, a1, a2⟩ => by
      dsimp only at a0 a1 a2 ⊢
      unfold bailifflaw15_CyclesEither.l1b
      by_cases hi : 0 ≤ i
      · right
        have hok : Tj.Ok G i := ⟨hi, a1⟩
        rw [if_pos hi, if_pos ⟨hi, by simp; omega⟩, wrap64 (x := i - 1) (by omega) (by omega)]
        by_cases hb : gt on i = true
        · rw [if_pos hb, jn_inl]
          refine ⟨_, rfl, ⟨by dsimp only; omega, by dsimp only; omega, fun n hn => hn.2.1.1, .inr ⟨⟨by dsimp only; omega, hok, hb⟩, fun n hn => by dsimp only at hn ⊢; omega⟩⟩, by dsimp only; omega⟩
        · rw [if_neg hb, jn_inl]
          refine ⟨_, rfl, ⟨by dsimp only; omega, by dsimp only; omega, a2.same fun y => ?_⟩, by dsimp only; omega⟩
          dsimp only
          constructor
          · rintro ⟨b1, b2, b3⟩
            refine ⟨?_, b2, b3⟩
            by_cases hyi : y = i
            · rw [hyi] at b3; exact absurd b3 hb
            · omega
          · rintro ⟨b1, b2, b3⟩; exact ⟨by omega, b2, b3⟩
      · left
        rw [if_neg hi]
        refine ⟨_, rfl, f, rfl, a2.same fun y => ?_⟩
        constructor
        · rintro ⟨b1, b2⟩; exact ⟨by have := b1.1; omega, b1, b2⟩
        · rintro ⟨_, b⟩; exact b) (-1, (G.length : Int) - 1) ⟨by dsimp only; omega, by dsimp only; omega, fun n hn => hn.2.1.1, .inl ⟨rfl, fun n hn => by have h1 := hn.1; have h2 := hn.2.1.2; dsimp only at h1; omega⟩⟩
  exact ⟨f, hr, h1⟩
theorem Mn.uniq {f g : Int} {S : Int → Prop} (h : Mn f S) (h' : Mn g S) : f = g := by
  rcases h.2 with ⟨rfl, h1⟩ | ⟨h1, h2⟩ <;> rcases h'.2 with ⟨rfl, h3⟩ | ⟨h3, h4⟩
  · rfl
  · exact absurd h3 (h1 _)
  · exact absurd h1 (h3 _)
  · have := h2 _ h3; have := h4 _ h1; omega
theorem Mn.nonneg {f : Int} {S : Int → Prop} (h : Mn f S) : 0 ≤ f ↔ ∃ x, S x := by
  rcases h.2 with ⟨rfl, h1⟩ | ⟨h1, h2⟩
  · exact ⟨fun h => by omega, fun ⟨x, hx⟩ => absurd hx (h1 x)⟩
  · exact ⟨fun _ => ⟨_, h1⟩, fun _ => h.1 _ h1⟩
theorem Mn.mem {f : Int} {S : Int → Prop} (h : Mn f S) (h0 : 0 ≤ f) : S f := by
  rcases h.2 with ⟨rfl, _⟩ | ⟨h1, _⟩
  · omega
  · exact h1
/-- On a cycle of the graph of the nodes that may be. -/
def Cyc (G : List (List Int)) (may : Int → Bool) (x : Int) : Prop := ∃ y, Ed G may x y ∧ Rch G may y x
theorem Rch.mono {may may' : Int → Bool} (h : ∀ x, may x = true → may' x = true) {x y : Int} (r : Rch G may x y) : Rch G may' x y := by
  induction r with
  | refl => exact .refl _
  | step e _ ih => exact .step ⟨e.1, e.2.1, h _ e.2.2⟩ ih
theorem Cyc.mono {may may' : Int → Bool} (h : ∀ x, may x = true → may' x = true) {x : Int} (r : Cyc G may x) : Cyc G may' x := by
  obtain ⟨y, e, r⟩ := r
  exact ⟨y, ⟨e.1, e.2.1, h _ e.2.2⟩, Go.Bw.Rch.mono h r⟩
theorem flag_iff {may : Int → Bool} (hP : Parts G may out) {p : List Int} (hp : p ∈ out) {x : Int} (hx : x ∈ p) : Flag G p x = true ↔ Cyc G may x := by
  unfold Flag
  rw [Bool.or_eq_true, decide_eq_true_iff, decide_eq_true_iff]
  constructor
  · rintro (h | h)
    · have hnd : p.Nodup := (hP.asc p hp).imp fun {a b} h e => by omega
      obtain ⟨y, hy, hyx⟩ : ∃ y ∈ p, y ≠ x := by
        match p, h, hnd with
        | a :: b :: l, _, hnd =>
          by_cases hax : a = x
          · refine ⟨b, by simp, fun e => ?_⟩
            rw [List.nodup_cons] at hnd
            exact hnd.1 (by rw [hax, ← e]; simp)
          · exact ⟨a, by simp, hax⟩
      obtain ⟨h1, h2⟩ := (hP.cls p hp x hx y).1 hy
      obtain ⟨z, e, r⟩ := rch_first h1 (fun e => hyx e.symm)
      exact ⟨z, e, r.trans h2⟩
    · exact ⟨x, ⟨h, hP.el p hp x hx⟩, .refl x⟩
  · rintro ⟨y, e, r⟩
    by_cases hyx : y = x
    · right; have := e.1; rwa [hyx] at this
    · left
      have hy : y ∈ p := (hP.cls p hp x hx y).2 ⟨.one e, r⟩
      match p, hx, hy with
      | [a], hx, hy => simp at hx hy; exact absurd (hy.trans hx.symm) hyx
      | a :: b :: l, _, _ => simp
/-- A walk, with the nodes that it comes to. -/
inductive Wk (G : List (List Int)) (may : Int → Bool) : List Int → Int → Int → Prop
  | nil (x : Int) : Wk G may [] x x
  | cons {l : List Int} {x y z : Int} : Ed G may x y → Wk G may l y z → Wk G may (y :: l) x z
theorem Wk.of {may : Int → Bool} {x z : Int} (h : Rch G may x z) : ∃ l, Wk G may l x z := by
  induction h with
  | refl => exact ⟨[], .nil _⟩
  | step e _ ih => obtain ⟨l, hl⟩ := ih; exact ⟨_, .cons e hl⟩
theorem Wk.rch {may may' : Int → Bool} {l : List Int} {x z : Int} (h : Wk G may l x z) (hm : ∀ v ∈ l, may' v = true) : Rch G may' x z := by
  induction h with
  | nil => exact .refl _
  | cons e _ ih => exact .step ⟨e.1, e.2.1, hm _ (by simp)⟩ (ih fun v hv => hm v (by simp [hv]))
theorem Wk.cut {may : Int → Bool} {l : List Int} {x z t : Int} (h : Wk G may l x z) (ht : t ∈ l) : ∃ l1 l2, Wk G may l1 x t ∧ Wk G may l2 t z ∧ l1 ≠ [] ∧ (∀ v ∈ l1, v ∈ l) ∧ ∀ v ∈ l2, v ∈ l := by
  induction h with
  | nil => cases ht
  | @cons l x y z e w ih =>
    rcases List.mem_cons.1 ht with rfl | ht
    · exact ⟨[t], l, .cons e (.nil _), w, by simp, fun v hv => by simp at hv; simp [hv], fun v hv => by simp [hv]⟩
    · obtain ⟨l1, l2, a, b, _, c, d⟩ := ih ht
      exact ⟨y :: l1, l2, .cons e a, b, by simp, fun v hv => by rcases List.mem_cons.1 hv with rfl | hv; exact .head _; exact .tail _ (c v hv), fun v hv => .tail _ (d v hv)⟩
theorem exists_max {f : Int → Int} : ∀ {l : List Int}, l ≠ [] → ∃ t ∈ l, ∀ v ∈ l, f v ≤ f t
  | [a], _ => ⟨a, by simp, fun v hv => by simp at hv; rw [hv]; exact Int.le_refl _⟩
  | a :: b :: l, _ => by
    obtain ⟨t, ht, hm⟩ := exists_max (f := f) (l := b :: l) (by simp)
    by_cases h : f a ≤ f t
    · exact ⟨t, .tail _ ht, fun v hv => by rcases List.mem_cons.1 hv with rfl | hv; exact h; exact hm v hv⟩
    · exact ⟨a, .head _, fun v hv => by rcases List.mem_cons.1 hv with rfl | hv; exact Int.le_refl _; have := hm v hv; omega⟩
/-- Each cycle has a node that tops it. -/
theorem cyc_top {may : Int → Bool} {pr : List Int} {x : Int} (h : Cyc G may x) : ∃ t, Tj.Ok G t ∧ OnCyc G pr (prio pr t) t := by
  obtain ⟨y, e, r⟩ := h
  obtain ⟨l, hl⟩ := Wk.of r
  have hw : Wk G may (y :: l) x x := .cons e hl
  obtain ⟨t, ht, hm⟩ := exists_max (f := prio pr) (l := y :: l) (by simp)
  obtain ⟨l1, l2, a, b, hne, c, d⟩ := hw.cut ht
  have hup : ∀ v ∈ y :: l, upto pr (prio pr t) v = true := fun v hv => decide_eq_true (hm v hv)
  have r1 : Rch G (upto pr (prio pr t)) x t := a.rch fun v hv => hup v (c v hv)
  have r2 : Rch G (upto pr (prio pr t)) t x := b.rch fun v hv => hup v (d v hv)
  have hx1 : ∃ z, Ed G (upto pr (prio pr t)) x z ∧ Rch G (upto pr (prio pr t)) z t := by
    cases a with
    | nil => exact absurd rfl hne
    | cons e' w => exact ⟨_, ⟨e'.1, e'.2.1, hup _ (c _ (by simp))⟩, w.rch fun v hv => hup v (c v (by simp [hv]))⟩
  obtain ⟨z, ez, rz⟩ := hx1
  have htok : Tj.Ok G t := by
    have : ∀ {l : List Int} {x z : Int}, Wk G may l x z → ∀ v ∈ l, Tj.Ok G v := by
      intro l x z w
      induction w with
      | nil => intro v hv; cases hv
      | cons e _ ih => intro v hv; rcases List.mem_cons.1 hv with rfl | hv; exact e.2.1; exact ih v hv
    exact this hw t ht
  refine ⟨t, htok, ?_⟩
  by_cases htx : t = x
  · subst htx; exact ⟨z, ez, rz⟩
  · obtain ⟨u, eu, ru⟩ := rch_first r2 htx
    exact ⟨u, eu, ru.trans r1⟩
theorem cut_run (a : List (List Int)) : bailifflaw15_cut.f a = some (a.take 50) := by
  unfold bailifflaw15_cut.f
  by_cases h : (50 : Int) < (a.length : Int)
  · rw [if_pos h, if_pos ⟨by omega, by omega⟩]; rfl
  · rw [if_neg h, List.take_of_length_le (by omega)]
theorem prio_nil (n : Int) : prio [] n = 0 := by
  unfold prio
  by_cases h : n < (([] : List Int).length : Int)
  · rw [if_pos h]
    unfold gt
    simp
  · rw [if_neg h]
theorem par00 : par 0 0 := rfl
theorem par01 : ¬ par 0 1 := by unfold par; decide
theorem par_or (x : Int) : par x 0 ∨ par x 1 := by
  have h : ∀ y : Int, band .i64 y 1 = IntKind.i64.wrap (((BitVec.ofInt 64 y).toNat % 2 : Nat) : Int) := fun y => by
    show IntKind.i64.wrap ((BitVec.ofInt 64 y &&& BitVec.ofInt 64 1).toNat : Int) = _
    rw [BitVec.toNat_and, show (BitVec.ofInt 64 1).toNat = 1 from rfl, Nat.and_one_is_mod]
  unfold par
  rw [h x, h 0, h 1]
  rcases Nat.mod_two_eq_zero_or_one (BitVec.ofInt 64 x).toNat with e | e
  · left; rw [e]; rfl
  · right; rw [e]; rfl
end
end Go.Bw
