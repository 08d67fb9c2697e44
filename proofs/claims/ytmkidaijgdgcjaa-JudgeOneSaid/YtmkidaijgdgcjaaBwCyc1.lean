/- The walk of cycles, as its model tells it, held against Tarjan's invariant. Conditions: none. -/
import Derived.Test.YtmkidaijgdgcjaaBwCyc
import Derived.Test.YtmkidaijgdgcjaaBwLoop
set_option linter.unusedVariables false
set_option linter.unusedSimpArgs false
set_option linter.unusedSectionVars false
namespace Go.Bw
open Go Go.RowKit Tj

theorem index_run {s1 s2 : List Int} {a : Int} (hn : a ∉ s1) (hb : ((s1 ++ a :: s2).length : Int) ≤ 9223372036854775807) : slices_Index_int_int.f (s1 ++ a :: s2) a = some (s1.length : Int) := by
  have hget : gt (s1 ++ a :: s2) (s1.length : Int) = a := gt_of_get (by simp)
  have hlt : (s1.length : Int) < ((s1 ++ a :: s2).length : Int) := by simp; omega
  obtain ⟨r, hr, hq⟩ := iter_meas (body := fun t_ : Int => slices_Index_int_int.l0b (s1 ++ a :: s2) a t_) (fun i => 0 ≤ i ∧ i ≤ (s1.length : Int)) (fun r => r = .inr (s1.length : Int)) (fun i => (s1.length - i).toNat) (fun i ⟨h0, h1⟩ => by
    show (∃ r, slices_Index_int_int.l0b (s1 ++ a :: s2) a i = some (.inr r) ∧ _) ∨ ∃ s', slices_Index_int_int.l0b (s1 ++ a :: s2) a i = some (.inl s') ∧ _
    unfold slices_Index_int_int.l0b
    rw [if_pos (by omega), if_pos ⟨h0, by omega⟩]
    by_cases hi : i = s1.length
    · left
      rw [if_pos (by rw [hi, hget])]
      exact ⟨_, rfl, by rw [hi]⟩
    · right
      have hne : ¬ a = gt (s1 ++ a :: s2) i := fun e => by
        rw [gt_app_left h0 (by omega)] at e
        exact hn (by rw [e]; exact gt_mem h0 (by omega))
      rw [if_neg hne, wrap64 (by omega) (by omega)]
      exact ⟨_, rfl, by omega, by omega⟩) 0 ⟨Int.le_refl _, by omega⟩
  unfold slices_Index_int_int.f slices_Index_int_int.l0
  rw [hr, hq]
  rfl
theorem clear_run {N part : List Int} {on on0 : List Bool} {ρ : Type} (body : List Bool → Int → Option ((List Bool × Int) ⊕ (List Bool ⊕ ρ)))
    (hbody : ∀ x i, body x i = if i < (part.length : Int) then if (0 : Int) ≤ i ∧ i < (part.length : Int) then if (0 : Int) ≤ gt part i ∧ gt part i < (on0.length : Int) then nx ((st x (gt part i) false), IntKind.i64.wrap (i + 1)) else none else none else dn (.inl x))
    (hp : ∀ x ∈ part, 0 ≤ x ∧ x < (on0.length : Int)) (hl : on.length = on0.length) (hb : (part.length : Int) ≤ 9223372036854775807) :
    ∃ on', iter (fun t_ : List Bool × Int => body t_.1 t_.2) (on, 0) = some (.inl on') ∧ on'.length = on0.length ∧ ∀ y, 0 ≤ y → y < (on0.length : Int) → gt on' y = if y ∈ part then false else gt on y := by
  obtain ⟨r, hr, on', rfl, h1, h2⟩ := iter_meas (body := fun t_ : List Bool × Int => body t_.1 t_.2)
    (fun s => 0 ≤ s.2 ∧ s.2 ≤ (part.length : Int) ∧ s.1.length = on0.length ∧ ∀ y, 0 ≤ y → y < (on0.length : Int) → gt s.1 y = if y ∈ part.take s.2.toNat then false else gt on y)
    (fun r => ∃ on', r = .inl on' ∧ on'.length = on0.length ∧ ∀ y, 0 ≤ y → y < (on0.length : Int) → gt on' y = if y ∈ part then false else gt on y) (fun s => (part.length - s.2).toNat)
    (fun ⟨x, i⟩ ⟨h0, h1, h2, h3⟩ => by
      dsimp only at h0 h1 h2 h3 ⊢
      rw [hbody]
      by_cases hi : i < (part.length : Int)
      · right
        have hg := hp _ (gt_mem h0 hi)
        rw [if_pos hi, if_pos ⟨h0, hi⟩, if_pos hg, wrap64 (by omega) (by omega)]
        refine ⟨_, rfl, ⟨by dsimp only; omega, by dsimp only; omega, by dsimp only; rw [st_len]; exact h2, fun y hy hy' => ?_⟩, by dsimp only; omega⟩
        dsimp only
        rw [gt_st hg.1 (by rw [h2]; exact hg.2) hy, show (i + 1).toNat = i.toNat + 1 from by omega, List.take_add_one, gt_some h0 hi, h3 y hy hy']
        by_cases hyg : y = gt part i
        · simp [hyg]
        · simp [hyg]
      · left
        rw [if_neg hi]
        refine ⟨_, rfl, x, rfl, h2, fun y hy hy' => ?_⟩
        rw [h3 y hy hy', List.take_of_length_le (by omega)]) (on, 0) ⟨Int.le_refl _, by simp, hl, fun y _ _ => by simp⟩
  exact ⟨on', hr, h1, h2⟩
structure C where
  ord : List Int
  low : List Int
  on : List Bool
  stk : List Int
  opn : List cycles_stand
  out : List (List Int)
  clk : Int
def C.abs (c : C) : S := ⟨gt c.ord, gt c.low, c.stk, c.opn.map fun t => (t.node, t.step), c.clk⟩
structure Con (G : List (List Int)) (may : Int → Bool) (c : C) : Prop where
  inv : Inv G may c.abs
  out : Out (G := G) (may := may) c.abs c.out
  lo : c.ord.length = G.length
  ll : c.low.length = G.length
  ln : c.on.length = G.length
  on : ∀ x, Tj.Ok G x → (gt c.on x = true ↔ x ∈ c.stk)
  may : ∀ x, Tj.Ok G x → gt c.ord x ≠ 0 → may x = true
  cnt : c.clk + (c.ord.count 0 : Int) = G.length
  sz : (c.out.length : Int) + c.stk.length ≤ c.clk
section
variable {G : List (List Int)} {may : Int → Bool} {c : C}
theorem Con.clk_le (h : Con G may c) : 0 ≤ c.clk ∧ c.clk ≤ G.length := by
  have := h.cnt
  have := h.sz
  omega
theorem Con.stk_len (h : Con G may c) : (c.stk.length : Int) ≤ G.length := by
  have := h.clk_le; have := h.sz; omega
theorem Con.out_len (h : Con G may c) : (c.out.length : Int) ≤ G.length := by
  have := h.clk_le; have := h.sz; omega
theorem Con.opn_len (h : Con G may c) : (c.opn.length : Int) ≤ G.length := by
  have h1 := h.inv.opi
  have h2 : (c.opn.map fun t => gt c.ord t.node).Pairwise (· < ·) := by
    rw [List.pairwise_map]
    have : c.abs.opn = c.opn.map fun t => (t.node, t.step) := rfl
    rw [this, List.pairwise_map] at h1
    exact h1
  have h3 := rising_len (a := 0) (c := c.clk) h2 (fun x hx => by
    obtain ⟨t, ht, rfl⟩ := List.mem_map.1 hx
    have hm := (h.inv.opn (t.node, t.step) (List.mem_map.2 ⟨t, ht, rfl⟩)).1
    have hs := h.inv.stk _ hm
    have hp := h.inv.pos _ hs.1
    have hp1 : 0 ≤ gt c.ord t.node ∧ gt c.ord t.node ≤ c.clk := hp
    have hs2 : gt c.ord t.node ≠ 0 := hs.2
    omega) h.clk_le.1
  have := h.clk_le
  simp at h3
  omega
end
/-- The last open node. -/
theorem open_last {o : List cycles_stand} {t : cycles_stand} (hb : ((o ++ [t]).length : Int) ≤ 1099511627776) :
    IntKind.i64.wrap (((o ++ [t]).length : Int) - 1) = (o.length : Int) ∧ gt (o ++ [t]) (o.length : Int) = t ∧ (o ++ [t]).take (o.length : Int).toNat = o ∧ ∀ t', st (o ++ [t]) (o.length : Int) t' = o ++ [t'] := by
  refine ⟨?_, gt_last, by simp, fun t' => ?_⟩
  · rw [wrap64 (by omega) (by omega)]; simp
  · unfold st; simp
/-- A class is taken off the stack. -/
theorem rest_run {s1 s2 : List Int} {v : Int} {on : List Bool} {out : List (List Int)} (hn : v ∉ s1) (hb : ((s1 ++ v :: s2).length : Int) ≤ 1099511627776) (hon : ∀ x ∈ v :: s2, 0 ≤ x ∧ x < (on.length : Int)) (hout : (out.length : Int) ≤ 1099511627776) :
    slices_Index_int_int.f (s1 ++ v :: s2) v = some (s1.length : Int) ∧ (s1 ++ v :: s2).drop (s1.length : Int).toNat = v :: s2 ∧ (s1 ++ v :: s2).take (s1.length : Int).toNat = s1 ∧
    slices_Clone_int_int.f (v :: s2) = some (v :: s2) ∧ slices_Sort_int_int.f (v :: s2) = some ((v :: s2).mergeSort fun x y => decide (x ≤ y)) ∧ (∀ p, cycles_parts_1.f p out = some (out ++ [p])) := by
  have h1 : ((v :: s2).length : Int) ≤ 1099511627776 := by simp at hb ⊢; omega
  refine ⟨index_run hn (by omega), by simp, by simp, ?_, ?_, fun p => ?_⟩
  · unfold slices_Clone_int_int.f
    rw [if_pos (by omega)]
  · unfold slices_Sort_int_int.f
    rw [if_pos (by omega)]
  · unfold cycles_parts_1.f
    rw [if_pos (by omega)]
section
variable {G : List (List Int)} {may : Int → Bool} {c : C}
/-- The walk behind a class that is told. -/
theorem Con.rest (h : Con G may c) {o : List cycles_stand} {v k : Int} (ho : c.opn = o ++ [⟨v, k⟩]) (hk : k = ((gt G v).length : Int)) (hlow : ¬ gt c.low v < gt c.ord v) {s1 s2 : List Int} (hst : c.stk = s1 ++ v :: s2)
    {low' : List Int} (hll : low'.length = G.length) (hl4 : ∀ t ∈ o, gt low' t.node = gt c.low t.node) {on' : List Bool} (hln : on'.length = G.length) (hon : ∀ y, 0 ≤ y → y < (G.length : Int) → gt on' y = if y ∈ v :: s2 then false else gt c.on y) :
    Con G may ⟨c.ord, low', on', s1, o, c.out ++ [(v :: s2).mergeSort fun x y => decide (x ≤ y)], c.clk⟩ := by
  have ho' : c.abs.opn = (o.map fun t => (t.node, t.step)) ++ [(v, k)] := by show c.opn.map _ = _; rw [ho]; simp
  obtain ⟨hs1, hs2⟩ := h.inv.split (v := v) (s1 := s1) (s2 := s2) hst
  obtain ⟨hi, h1, h2⟩ := h.inv.part ho' hk hlow (s1 := s1) (s2 := s2) hst (s' := C.abs ⟨c.ord, low', on', s1, o, c.out ++ [(v :: s2).mergeSort fun x y => decide (x ≤ y)], c.clk⟩) rfl (fun w hw => by
    obtain ⟨p, hp, rfl⟩ := List.mem_map.1 hw
    obtain ⟨t, ht, rfl⟩ := List.mem_map.1 hp
    exact hl4 t ht) rfl rfl rfl
  have hnd : (v :: s2).Nodup := by
    have h3 := h.inv.inc
    have h4 : c.abs.stk = s1 ++ v :: s2 := hst
    rw [h4, List.pairwise_append] at h3
    exact h3.2.1.imp fun {x y} hxy e => by rw [e] at hxy; omega
  have hperm : ((v :: s2).mergeSort fun x y => decide (x ≤ y)).Perm (v :: s2) := List.mergeSort_perm _ _
  have hmem : ∀ x, x ∈ (v :: s2).mergeSort (fun x y => decide (x ≤ y)) ↔ x ∈ v :: s2 := fun x => hperm.mem_iff
  have hasc : ((v :: s2).mergeSort fun x y => decide (x ≤ y)).Pairwise (· < ·) := by
    have hp := List.pairwise_mergeSort (le := fun x y : Int => decide (x ≤ y)) (fun a b c h1 h2 => by simp at *; omega) (fun a b => by simp; omega) (v :: s2)
    have hq : ((v :: s2).mergeSort fun x y => decide (x ≤ y)).Nodup := hperm.nodup_iff.2 hnd
    exact (hp.and hq).imp fun {x y} ⟨h1, h2⟩ => by simp at h1; omega
  have hno : ∀ x, x ∈ v :: s2 → x ∉ s1 := fun x hx hx1 => by
    have := hs1 x hx1
    rcases List.mem_cons.1 hx with rfl | hx
    · omega
    · have := hs2 x hx; omega
  refine ⟨hi, Out.part h.out h.inv (s1 := s1) (s2 := s2) hst hmem hasc h1 h2 rfl rfl, h.lo, hll, hln, fun x hx => ?_, h.may, h.cnt, ?_⟩
  · rw [hon x hx.1 hx.2]
    have := h.on x hx
    rw [hst] at this
    by_cases hxv : x ∈ v :: s2
    · rw [if_pos hxv]
      simp [hno x hxv]
    · rw [if_neg hxv, this, List.mem_append]
      simp [hxv]
  · have := h.sz
    rw [hst] at this
    simp at this ⊢
    omega
theorem Con.join (h : Con G may c) {o : List cycles_stand} {u : cycles_stand} {v k : Int} (ho : c.opn = (o ++ [u]) ++ [⟨v, k⟩]) (hk : k = ((gt G v).length : Int)) (hlow : gt c.low v < gt c.ord v) :
    Con G may ⟨c.ord, st c.low u.node (if gt c.low v < gt c.low u.node then gt c.low v else gt c.low u.node), c.on, c.stk, o ++ [u], c.out, c.clk⟩ := by
  have ho' : c.abs.opn = ((o.map fun t => (t.node, t.step)) ++ [(u.node, u.step)]) ++ [(v, k)] := by show c.opn.map _ = _; rw [ho]; simp
  have hu : Tj.Ok G u.node := (h.inv.stk _ (h.inv.opn (u.node, u.step) (by rw [ho']; simp)).1).1
  have hul : u.node < (c.low.length : Int) := by rw [h.ll]; exact hu.2
  refine ⟨h.inv.join (s' := C.abs ⟨c.ord, st c.low u.node (if gt c.low v < gt c.low u.node then gt c.low v else gt c.low u.node), c.on, c.stk, o ++ [u], c.out, c.clk⟩) ho' hk hlow rfl ?_ (fun x hx hxu => ?_) rfl (by show (o ++ [u]).map _ = _; simp) rfl,
    ⟨h.out.el, h.out.all, h.out.ne, h.out.cls, h.out.asc, h.out.dis⟩, h.lo, (st_len _ _ _).trans h.ll, h.ln, h.on, h.may, h.cnt, h.sz⟩
  · show gt (st c.low u.node _) u.node = _
    rw [gt_st hu.1 hul hu.1, if_pos rfl]
    rfl
  · show gt (st c.low u.node _) x = _
    rw [gt_st hu.1 hul hx.1, if_neg hxu]
    rfl
theorem leave_run (h : Con G may c) (hN : (G.length : Int) ≤ 1099511627776) {o : List cycles_stand} {v k : Int} (ho : c.opn = o ++ [⟨v, k⟩]) (hk : k = ((gt G v).length : Int)) :
    ∃ c' : C, cycles_walk_leave.f G c.ord c.low c.on c.stk c.opn c.clk c.out v = some (c'.low, c'.opn, c'.on, c'.stk, c'.out) ∧ c'.ord = c.ord ∧ c'.clk = c.clk ∧ c'.opn = o ∧ Con G may c' := by
  have ho' : c.abs.opn = (o.map fun t => (t.node, t.step)) ++ [(v, k)] := by show c.opn.map _ = _; rw [ho]; simp
  have hl := h.inv.last ho'
  have hvs : v ∈ c.stk := hl.1
  have hv : Tj.Ok G v := hl.2.1
  obtain ⟨s1, s2, hst⟩ := List.append_of_mem hvs
  obtain ⟨hs1, hs2⟩ := h.inv.split (v := v) (s1 := s1) (s2 := s2) hst
  have hn : v ∉ s1 := fun hv1 => by have := hs1 v hv1; omega
  have hsl := h.stk_len
  have hol := h.out_len
  have hop := h.opn_len
  have hok : ∀ x ∈ v :: s2, 0 ≤ x ∧ x < (c.on.length : Int) := fun x hx => by
    have : x ∈ c.abs.stk := by show x ∈ c.stk; rw [hst]; exact List.mem_append_right _ hx
    have := (h.inv.stk x this).1
    rw [h.ln]
    exact this
  obtain ⟨r1, r2, r3, r4, r5, r6⟩ := rest_run (s1 := s1) (s2 := s2) (v := v) (on := c.on) (out := c.out) hn (by rw [← hst]; omega) hok (by omega)
  have hpl : ((v :: s2).length : Int) ≤ 9223372036854775807 := by
    have : (v :: s2).length ≤ c.stk.length := by rw [hst]; simp
    omega
  obtain ⟨w1, w2, w3, _⟩ := open_last (o := o) (t := ⟨v, k⟩) (by rw [← ho]; omega)
  have hvl : (0 : Int) ≤ v ∧ v < (c.low.length : Int) := by rw [h.ll]; exact hv
  have hvo : (0 : Int) ≤ v ∧ v < (c.ord.length : Int) := by rw [h.lo]; exact hv
  unfold cycles_walk_leave.f
  rw [ho, w1, w3, if_pos ⟨by omega, by simp; omega⟩]
  rcases List.eq_nil_or_concat o with rfl | ⟨o2, u, hcc⟩
  · rw [if_neg (by simp), if_pos hvl, if_pos hvo]
    have hnl : ¬ gt c.low v < gt c.ord v := fun hlt => by
      obtain ⟨_, z, hz, z1, _⟩ := h.inv.l1 v hl.2.2.2.1
      obtain ⟨b, hb, _⟩ := h.inv.s1 z hz
      have hbv : b = v := by have := hb.1; rw [nodes_app c.abs ho'] at this; simpa using this
      subst hbv
      have h1 := hb.2.1
      rw [z1] at h1
      have h2 : gt c.ord b ≤ gt c.low b := h1
      omega
    rw [if_neg hnl, hst, r1]
    obtain ⟨on', c1, c2, c3⟩ := clear_run (N := []) (part := v :: s2) (on := c.on) (on0 := c.on) (fun x i => cycles_walk_leave.l1b c.on (v :: s2) x i) (fun x i => rfl) hok rfl hpl
    refine ⟨⟨c.ord, c.low, on', s1, [], c.out ++ [(v :: s2).mergeSort fun x y => decide (x ≤ y)], c.clk⟩, ?_, rfl, rfl, rfl, h.rest ho hk hnl hst h.ll (fun _ h => by cases h) (c2.trans h.ln) (fun y y0 y1 => c3 y y0 (by rw [h.ln]; exact y1))⟩
    simp only [Option.bind_some]
    rw [if_pos ⟨by omega, by simp; omega⟩, r2, r4]
    simp only [Option.bind_some]
    have hl1 : cycles_walk_leave.l1 c.on (v :: s2) c.on 0 = some (.inl on') := c1
    rw [hl1, jn_inl, r5]
    simp only [Option.bind_some, r6, r3]
  · rw [List.concat_eq_append] at hcc
    subst hcc
    obtain ⟨x1, x2, x3, _⟩ := open_last (o := o2) (t := u) (by rw [ho] at hop; simp at hop ⊢; omega)
    have hoc : c.opn = (o2 ++ [u]) ++ [⟨v, k⟩] := ho
    have hu : Tj.Ok G u.node := (h.inv.stk _ (h.inv.opn (u.node, u.step) (by rw [ho']; simp)).1).1
    have hul : (0 : Int) ≤ u.node ∧ u.node < (c.low.length : Int) := by rw [h.ll]; exact hu
    have huv : u.node ≠ v := fun e => by
      have := h.inv.opi
      rw [ho', List.pairwise_append] at this
      have := this.2.2 (u.node, u.step) (by simp) (v, k) (by simp)
      have h3 : gt c.ord u.node < gt c.ord v := this
      rw [e] at h3
      omega
    have hlow' : gt (st c.low u.node (if gt c.low v < gt c.low u.node then gt c.low v else gt c.low u.node)) v = gt c.low v := by
      rw [gt_st hul.1 hul.2 hv.1, if_neg (fun e => huv e.symm)]
    rw [if_pos (by simp), x1, x2, if_pos ⟨by omega, by simp; omega⟩, if_pos hul, if_pos hvl, if_pos hvo, hlow']
    by_cases hlow : gt c.low v < gt c.ord v
    · rw [if_pos hlow]
      exact ⟨⟨c.ord, st c.low u.node (if gt c.low v < gt c.low u.node then gt c.low v else gt c.low u.node), c.on, c.stk, o2 ++ [u], c.out, c.clk⟩, rfl, rfl, rfl, rfl, h.join hoc hk hlow⟩
    · rw [if_neg hlow, hst, r1]
      obtain ⟨on', c1, c2, c3⟩ := clear_run (N := []) (part := v :: s2) (on := c.on) (on0 := c.on) (fun x i => cycles_walk_leave.l0b c.on (v :: s2) x i) (fun x i => rfl) hok rfl hpl
      refine ⟨⟨c.ord, st c.low u.node (if gt c.low v < gt c.low u.node then gt c.low v else gt c.low u.node), on', s1, o2 ++ [u], c.out ++ [(v :: s2).mergeSort fun x y => decide (x ≤ y)], c.clk⟩, ?_, rfl, rfl, rfl, h.rest hoc hk hlow hst ((st_len _ _ _).trans h.ll) (fun t ht => ?_) (c2.trans h.ln) (fun y y0 y1 => c3 y y0 (by rw [h.ln]; exact y1))⟩
      · simp only [Option.bind_some]
        rw [if_pos ⟨by omega, by simp; omega⟩, r2, r4]
        simp only [Option.bind_some]
        have hl1 : cycles_walk_leave.l0 c.on (v :: s2) c.on 0 = some (.inl on') := c1
        rw [hl1, jn_inl, r5]
        simp only [Option.bind_some, r6, r3]
      · -- what the open ones' low is: the one written is no less
        have htn : Tj.Ok G t.node := (h.inv.stk _ (h.inv.opn (t.node, t.step) (by show _ ∈ c.opn.map _; rw [hoc]; exact List.mem_map.2 ⟨t, List.mem_append_left _ ht, rfl⟩)).1).1
        rw [gt_st hul.1 hul.2 htn.1]
        by_cases htu : t.node = u.node
        · rw [if_pos htu, htu]
          have h1 := (h.inv.l1 u.node (by show u.node ∈ (c.opn.map _).map _; rw [hoc]; simp)).1
          have h2 : gt c.low u.node ≤ gt c.ord u.node := h1
          have h3 := h.inv.opi
          rw [ho', List.pairwise_append] at h3
          have h4 : gt c.ord u.node < gt c.ord v := h3.2.2 (u.node, u.step) (by simp) (v, k) (by simp)
          rw [if_neg (by omega)]
        · rw [if_neg htu]
def mu (G : List (List Int)) (c : C) : Nat := c.ord.count 0 * ((G.map List.length).sum + 2) + (c.opn.map fun t => (((gt G t.node).length : Int) - t.step + 1).toNat).sum
theorem Con.out_same {c' : C} (h : Con G may c) (e1 : c'.ord = c.ord) (e2 : c'.stk = c.stk) (e3 : c'.out = c.out) : Out (G := G) (may := may) c'.abs c'.out := by
  have h1 : c'.abs.ord = c.abs.ord := by show gt c'.ord = gt c.ord; rw [e1]
  have h2 : c'.abs.stk = c.abs.stk := e2
  rw [e3]
  exact ⟨by rw [h1, h2]; exact h.out.el, by rw [h1, h2]; exact h.out.all, h.out.ne, h.out.cls, h.out.asc, h.out.dis⟩
theorem Con.skip (h : Con G may c) {o : List cycles_stand} {v k : Int} (ho : c.opn = o ++ [⟨v, k⟩]) (hk : k < ((gt G v).length : Int)) (hn : ∀ y, y = gt (gt G v) k → Ed G may v y → gt c.ord y ≠ 0 ∧ y ∉ c.stk) :
    Con G may ⟨c.ord, c.low, c.on, c.stk, o ++ [⟨v, k + 1⟩], c.out, c.clk⟩ := by
  have ho' : c.abs.opn = (o.map fun t => (t.node, t.step)) ++ [(v, k)] := by show c.opn.map _ = _; rw [ho]; simp
  have hi := h.inv.skip ho' hk hn
  have he : C.abs ⟨c.ord, c.low, c.on, c.stk, o ++ [⟨v, k + 1⟩], c.out, c.clk⟩ = c.abs.next (o.map fun t => (t.node, t.step)) v k := by simp [C.abs, S.next]
  exact ⟨by rw [he]; exact hi, h.out_same rfl rfl rfl, h.lo, h.ll, h.ln, h.on, h.may, h.cnt, h.sz⟩
theorem Con.back (h : Con G may c) {o : List cycles_stand} {v k : Int} (ho : c.opn = o ++ [⟨v, k⟩]) (hk : k < ((gt G v).length : Int)) {m : Int} (hm : m = gt (gt G v) k) (e : Ed G may v m) (hs : m ∈ c.stk) :
    Con G may ⟨c.ord, st c.low v (if gt c.ord m < gt c.low v then gt c.ord m else gt c.low v), c.on, c.stk, o ++ [⟨v, k + 1⟩], c.out, c.clk⟩ := by
  have ho' : c.abs.opn = (o.map fun t => (t.node, t.step)) ++ [(v, k)] := by show c.opn.map _ = _; rw [ho]; simp
  have hv := (h.inv.last ho').2.1
  have hvl : v < (c.low.length : Int) := by rw [h.ll]; exact hv.2
  have hi := h.inv.back ho' hk hm e hs (low' := gt (st c.low v (if gt c.ord m < gt c.low v then gt c.ord m else gt c.low v))) (by rw [gt_st hv.1 hvl hv.1, if_pos rfl]; rfl) (fun x hx hxv => by rw [gt_st hv.1 hvl hx.1, if_neg hxv]; rfl)
  have he : C.abs ⟨c.ord, st c.low v (if gt c.ord m < gt c.low v then gt c.ord m else gt c.low v), c.on, c.stk, o ++ [⟨v, k + 1⟩], c.out, c.clk⟩ = { c.abs.next (o.map fun t => (t.node, t.step)) v k with low := gt (st c.low v (if gt c.ord m < gt c.low v then gt c.ord m else gt c.low v)) } := by simp [C.abs, S.next]
  exact ⟨by rw [he]; exact hi, h.out_same rfl rfl rfl, h.lo, (st_len _ _ _).trans h.ll, h.ln, h.on, h.may, h.cnt, h.sz⟩
/-- What meeting a node does to all that is beside the invariant. -/
theorem Con.met (h : Con G may c) {m : Int} (hm : Tj.Ok G m) (hy : may m = true) (h0 : gt c.ord m = 0) {opn' : List cycles_stand} (hi : Inv G may (C.abs ⟨st c.ord m (c.clk + 1), st c.low m (c.clk + 1), st c.on m true, c.stk ++ [m], opn', c.out, c.clk + 1⟩)) :
    Con G may ⟨st c.ord m (c.clk + 1), st c.low m (c.clk + 1), st c.on m true, c.stk ++ [m], opn', c.out, c.clk + 1⟩ := by
  have hc := h.clk_le
  have hmo : m < (c.ord.length : Int) := by rw [h.lo]; exact hm.2
  have hml : m < (c.low.length : Int) := by rw [h.ll]; exact hm.2
  have hmn : m < (c.on.length : Int) := by rw [h.ln]; exact hm.2
  have ord' : ∀ x, Tj.Ok G x → gt (st c.ord m (c.clk + 1)) x = if x = m then c.clk + 1 else gt c.ord x := fun x hx => gt_st hm.1 hmo hx.1
  have hms : m ∉ c.stk := fun e => (h.inv.stk m e).2 h0
  refine ⟨hi, ⟨fun p hp x hx => ?_, fun x hx hx0 hxs => ?_, h.out.ne, h.out.cls, h.out.asc, h.out.dis⟩, (st_len _ _ _).trans h.lo, (st_len _ _ _).trans h.ll, (st_len _ _ _).trans h.ln, fun x hx => ?_, fun x hx hx0 => ?_, ?_, ?_⟩
  · obtain ⟨a, b, d⟩ := h.out.el p hp x hx
    have hxm : x ≠ m := fun e => b (by rw [e]; exact h0)
    refine ⟨a, ?_, ?_⟩
    · show gt (st c.ord m (c.clk + 1)) x ≠ 0
      rw [ord' x a, if_neg hxm]; exact b
    · show x ∉ c.stk ++ [m]
      simp [hxm]
      exact d
  · have hxs' : x ∉ c.stk ++ [m] := hxs
    have hxm : x ≠ m := fun e => hxs' (by simp [e])
    have hx0' : gt (st c.ord m (c.clk + 1)) x ≠ 0 := hx0
    rw [ord' x hx, if_neg hxm] at hx0'
    exact h.out.all x hx hx0' fun e => hxs' (List.mem_append_left _ e)
  · show gt (st c.on m true) x = true ↔ x ∈ c.stk ++ [m]
    rw [gt_st hm.1 hmn hx.1, List.mem_append]
    by_cases hxm : x = m
    · simp [hxm]
    · rw [if_neg hxm, h.on x hx]
      simp [hxm]
  · by_cases hxm : x = m
    · rw [hxm]; exact hy
    · have hx0' : gt (st c.ord m (c.clk + 1)) x ≠ 0 := hx0
      rw [ord' x hx, if_neg hxm] at hx0'
      exact h.may x hx hx0'
  · have := count_set (c := c.clk + 1) hm.1 hmo h0 (by omega)
    have h3 := h.cnt
    show c.clk + 1 + ((st c.ord m (c.clk + 1)).count 0 : Int) = G.length
    omega
  · have := h.sz
    show (c.out.length : Int) + (c.stk ++ [m]).length ≤ c.clk + 1
    simp
    omega
theorem Con.meet (h : Con G may c) {o : List cycles_stand} {v k : Int} (ho : c.opn = o ++ [⟨v, k⟩]) (hk : k < ((gt G v).length : Int)) {m : Int} (hm : m = gt (gt G v) k) (e : Ed G may v m) (h0 : gt c.ord m = 0) :
    Con G may ⟨st c.ord m (c.clk + 1), st c.low m (c.clk + 1), st c.on m true, c.stk ++ [m], (o ++ [⟨v, k + 1⟩]) ++ [⟨m, 0⟩], c.out, c.clk + 1⟩ := by
  have ho' : c.abs.opn = (o.map fun t => (t.node, t.step)) ++ [(v, k)] := by show c.opn.map _ = _; rw [ho]; simp
  have hmo : m < (c.ord.length : Int) := by rw [h.lo]; exact e.2.1.2
  have hml : m < (c.low.length : Int) := by rw [h.ll]; exact e.2.1.2
  refine h.met e.2.1 e.2.2 h0 (h.inv.meet ho' hk hm e h0 ?_ (fun x hx hxm => ?_) ?_ (fun x hx hxm => ?_) rfl (by simp [C.abs]) rfl)
  · show gt (st c.ord m _) m = _
    rw [gt_st e.2.1.1 hmo e.2.1.1, if_pos rfl]; rfl
  · show gt (st c.ord m _) x = _
    rw [gt_st e.2.1.1 hmo hx.1, if_neg hxm]; rfl
  · show gt (st c.low m _) m = _
    rw [gt_st e.2.1.1 hml e.2.1.1, if_pos rfl]; rfl
  · show gt (st c.low m _) x = _
    rw [gt_st e.2.1.1 hml hx.1, if_neg hxm]; rfl
theorem mu_app {a b d e : List Int} {f g : List Bool} {x y : List (List Int)} {cl cl' : Int} (o : List cycles_stand) (t t' : cycles_stand) (hlt : (((gt G t'.node).length : Int) - t'.step + 1).toNat < (((gt G t.node).length : Int) - t.step + 1).toNat) :
    mu G ⟨a, b, f, d, o ++ [t'], x, cl⟩ < mu G ⟨a, e, g, d, o ++ [t], y, cl'⟩ := by
  simp [mu]
  omega
theorem le_sum : ∀ {l : List Nat} {x : Nat}, x ∈ l → x ≤ l.sum
  | y :: l, x, h => by
    rcases List.mem_cons.1 h with rfl | h
    · simp
    · have := le_sum h; simp; omega
theorem round_run (h : Con G may c) (hN : (G.length : Int) ≤ 1099511627776) (hrow : ∀ r ∈ G, (r.length : Int) ≤ 9223372036854775807) (hmay : ∀ m, Tj.Ok G m → cycles_Components_1.f m = some (may m)) {z2 z3 : List Int} {z4 : List Bool} (l2 : z2.length = G.length) (l3 : z3.length = G.length) (l4 : z4.length = G.length) (hne : c.opn ≠ []) :
    ∃ c' : C, cycles_walk_from.l0b G z2 z3 z4 c.ord c.low c.on c.stk c.opn c.out c.clk = some (.inl (c'.ord, c'.low, c'.on, c'.stk, c'.opn, c'.out, c'.clk)) ∧ Con G may c' ∧ mu G c' < mu G c ∧ ∀ x, Tj.Ok G x → gt c.ord x ≠ 0 → gt c'.ord x ≠ 0 := by
  obtain ⟨o, t, hcc⟩ := (List.eq_nil_or_concat c.opn).resolve_left hne
  rw [List.concat_eq_append] at hcc
  obtain ⟨v, k⟩ := t
  have ho := hcc
  have hop := h.opn_len
  obtain ⟨w1, w2, w3, w4⟩ := open_last (o := o) (t := ⟨v, k⟩) (by rw [← ho]; omega)
  have ho' : c.abs.opn = (o.map fun t => (t.node, t.step)) ++ [(v, k)] := by show c.opn.map _ = _; rw [ho]; simp
  have hl := h.inv.last ho'
  have hv : Tj.Ok G v := hl.2.1
  have hb := h.inv.opn (v, k) (by rw [ho']; simp)
  have hk0 : 0 ≤ k := hb.2.1
  have hk1 : k ≤ ((gt G v).length : Int) := hb.2.2
  have hrv : ((gt G v).length : Int) ≤ 9223372036854775807 := hrow _ (gt_mem hv.1 hv.2)
  have hpos : (0 : Int) < ((o ++ [(⟨v, k⟩ : cycles_stand)]).length : Int) := by rw [List.length_append]; simp
  unfold cycles_walk_from.l0b
  rw [ho, w1, w2, if_pos hpos, if_pos ⟨by omega, by simp; omega⟩]
  dsimp only
  rw [if_pos (show (0 : Int) ≤ v ∧ v < (G.length : Int) from hv)]
  by_cases hkl : k = ((gt G v).length : Int)
  · obtain ⟨c', r1, r2, r3, r4, r5⟩ := leave_run h hN ho hkl
    rw [if_pos hkl, ← ho, r1]
    refine ⟨c', ?_, r5, ?_, fun x _ hx => by rw [r2]; exact hx⟩
    · simp only [Option.bind_some]
      rw [← r2, ← r3]
      rfl
    · simp only [mu]
      rw [r2, r4, ho]
      simp
      omega
  · rw [if_neg hkl, if_pos ⟨hk0, by omega⟩]
    have hkl' : k < ((gt G v).length : Int) := by omega
    have hw : IntKind.i64.wrap (k + 1) = k + 1 := wrap64 (by omega) (by omega)
    have hin : gt (gt G v) k ∈ gt G v := gt_mem hk0 hkl'
    rw [hw, w4]
    generalize hm : gt (gt G v) k = m at *
    have hskip : (∀ y, y = m → Ed G may v y → gt c.ord y ≠ 0 ∧ y ∉ c.stk) → Con G may ⟨c.ord, c.low, c.on, c.stk, o ++ [⟨v, k + 1⟩], c.out, c.clk⟩ := fun hn => h.skip ho hkl' (by rw [hm]; exact hn)
    have hmu : ∀ {a b : List Int} {f : List Bool}, mu G ⟨c.ord, b, f, c.stk, o ++ [⟨v, k + 1⟩], c.out, c.clk⟩ < mu G c := fun {a b f} => by
      have : c = ⟨c.ord, c.low, c.on, c.stk, o ++ [⟨v, k⟩], c.out, c.clk⟩ := by rw [← ho]
      rw [this]
      exact mu_app o ⟨v, k⟩ ⟨v, k + 1⟩ (by simp; omega)
    by_cases hmo : Tj.Ok G m
    · rw [if_neg (by have := hmo.1; omega), jn_inl]
      have hd : decide ((G.length : Int) ≤ m) = false := decide_eq_false (by have := hmo.2; omega)
      rw [hd, if_neg (by simp), hmay m hmo]
      simp only [Option.bind_some]
      rw [jn_inl]
      by_cases hy : may m = true
      · have e : Ed G may v m := ⟨hin, hmo, hy⟩
        rw [hy, if_neg (by simp), if_pos (by rw [l2]; exact hmo)]
        by_cases h0 : gt c.ord m = 0
        · rw [if_pos h0]
          have hc := h.clk_le
          have hsl := h.stk_len
          have hbo : ((o ++ [(⟨v, k + 1⟩ : cycles_stand)]).length + ([(⟨m, 0⟩ : cycles_stand)] : List cycles_stand).length) * 16 ≤ 140737488355328 := by
            rw [ho] at hop
            simp at hop ⊢
            omega
          unfold cycles_walk_meet.f
          rw [wrap64 (x := c.clk + 1) (by omega) (by omega), if_pos (by rw [h.lo]; exact hmo), if_pos (by rw [h.ll]; exact hmo), if_pos (by rw [h.ln]; exact hmo), if_pos (by simp; omega), if_pos hbo]
          refine ⟨_, rfl, h.meet ho hkl' hm.symm e h0, ?_, fun x hx hx0 => by
            dsimp only
            rw [gt_st hmo.1 (by rw [h.lo]; exact hmo.2) hx.1]
            split
            · omega
            · exact hx0⟩
          have hcs := count_set (c := c.clk + 1) hmo.1 (by rw [h.lo]; exact hmo.2) h0 (by omega)
          have hls : (gt G m).length ≤ (G.map List.length).sum := le_sum (List.mem_map.2 ⟨_, gt_mem hmo.1 hmo.2, rfl⟩)
          simp only [mu]
          rw [ho, ← hcs, Nat.add_mul]
          simp
          omega
        · rw [if_neg h0, if_pos (by rw [l4]; exact hmo)]
          by_cases hs : gt c.on m = true
          · have hms : m ∈ c.stk := (h.on m hmo).1 hs
            have hg : gt (o ++ [(⟨v, k + 1⟩ : cycles_stand)]) (o.length : Int) = ⟨v, k + 1⟩ := gt_last
            rw [if_pos hs, hg]
            dsimp only
            rw [if_pos (by rw [l3]; exact hv)]
            exact ⟨_, rfl, h.back ho hkl' hm.symm e hms, hmu (a := []), fun _ _ hx => hx⟩
          · rw [if_neg hs]
            refine ⟨⟨c.ord, c.low, c.on, c.stk, o ++ [⟨v, k + 1⟩], c.out, c.clk⟩, rfl, hskip fun y hy' _ => ?_, hmu (a := []), fun _ _ hx => hx⟩
            subst hy'
            exact ⟨h0, fun hms => hs ((h.on y hmo).2 hms)⟩
      · have hy' : may m = false := by cases hh : may m <;> simp_all
        rw [hy', if_pos (by simp)]
        exact ⟨⟨c.ord, c.low, c.on, c.stk, o ++ [⟨v, k + 1⟩], c.out, c.clk⟩, rfl, hskip fun y hym e => by subst hym; exact absurd e.2.2 hy, hmu (a := []), fun _ _ hx => hx⟩
    · have hx : ∃ b, (if m < 0 then (some (.inl true) : Option (Bool ⊕ ((List Int × List Int × List Bool × List Int × List cycles_stand × List (List Int) × Int) ⊕ ((List Int × List Int × List Bool × List Int × List cycles_stand × List (List Int) × Int) ⊕ (List Int × List Int × List Bool × List Int × List cycles_stand × List (List Int) × Int))))) else some (.inl (decide ((G.length : Int) ≤ m)))) = some (.inl true) := ⟨true, by
        by_cases hm0 : m < 0
        · rw [if_pos hm0]
        · rw [if_neg hm0, decide_eq_true (show (G.length : Int) ≤ m from by
            rcases Int.lt_or_le m G.length with h' | h'
            · exact absurd ⟨by omega, h'⟩ hmo
            · exact h')]⟩
      obtain ⟨_, hx⟩ := hx
      rw [hx, jn_inl, if_pos rfl, jn_inl, if_pos rfl]
      exact ⟨⟨c.ord, c.low, c.on, c.stk, o ++ [⟨v, k + 1⟩], c.out, c.clk⟩, rfl, hskip fun y hym e => by subst hym; exact absurd e.2.1 hmo, hmu (a := []), fun _ _ hx => hx⟩
theorem Con.begin (h : Con G may c) (ho : c.opn = []) {m : Int} (hm : Tj.Ok G m) (hy : may m = true) (h0 : gt c.ord m = 0) :
    Con G may ⟨st c.ord m (c.clk + 1), st c.low m (c.clk + 1), st c.on m true, c.stk ++ [m], c.opn ++ [⟨m, 0⟩], c.out, c.clk + 1⟩ := by
  have hs : c.stk = [] := by
    cases hst : c.stk with
    | nil => rfl
    | cons x l =>
      obtain ⟨v, hv, _⟩ := h.inv.s1 x (by show x ∈ c.stk; rw [hst]; simp)
      have := hv.1
      have h2 : c.abs.nodes = [] := by show (c.opn.map _).map _ = _; rw [ho]; rfl
      rw [h2] at this
      cases this
  have hmo : m < (c.ord.length : Int) := by rw [h.lo]; exact hm.2
  have hml : m < (c.low.length : Int) := by rw [h.ll]; exact hm.2
  refine h.met hm hy h0 (h.inv.start (by show c.opn.map _ = _; rw [ho]; rfl) hs hm h0 ?_ (fun x hx hxm => ?_) ?_ (by show c.stk ++ [m] = _; rw [hs]; rfl) (by show (c.opn ++ [_]).map _ = _; rw [ho]; rfl) rfl)
  · show gt (st c.ord m _) m = _
    rw [gt_st hm.1 hmo hm.1, if_pos rfl]; rfl
  · show gt (st c.ord m _) x = _
    rw [gt_st hm.1 hmo hx.1, if_neg hxm]; rfl
  · show gt (st c.low m _) m = _
    rw [gt_st hm.1 hml hm.1, if_pos rfl]; rfl
theorem from_run (h : Con G may c) (hN : (G.length : Int) ≤ 1099511627776) (hrow : ∀ r ∈ G, (r.length : Int) ≤ 9223372036854775807) (hmay : ∀ m, Tj.Ok G m → cycles_Components_1.f m = some (may m)) (ho : c.opn = []) {n : Int} (hn : Tj.Ok G n) (hy : may n = true) (h0 : gt c.ord n = 0) :
    ∃ c' : C, cycles_walk_from.f G c.ord c.low c.on c.stk c.opn c.clk c.out n = some (c'.ord, c'.low, c'.on, c'.stk, c'.opn, c'.out, c'.clk) ∧ Con G may c' ∧ c'.opn = [] ∧ gt c'.ord n ≠ 0 ∧ ∀ x, Tj.Ok G x → gt c.ord x ≠ 0 → gt c'.ord x ≠ 0 := by
  have hb := h.begin ho hn hy h0
  have hc := h.clk_le
  have hsl := h.stk_len
  have hno : n < (c.ord.length : Int) := by rw [h.lo]; exact hn.2
  unfold cycles_walk_from.f cycles_walk_meet.f
  rw [wrap64 (x := c.clk + 1) (by omega) (by omega), if_pos (by rw [h.lo]; exact hn), if_pos (by rw [h.ll]; exact hn), if_pos (by rw [h.ln]; exact hn), if_pos (by simp; omega), if_pos (by rw [ho]; simp)]
  simp only [Option.bind_some]
  obtain ⟨r, hr, c', rfl, q1, q2, q3⟩ := iter_meas (body := fun t_ : (List Int) × (List Int) × (List Bool) × (List Int) × (List cycles_stand) × (List (List Int)) × Int => cycles_walk_from.l0b G c.ord c.low c.on t_.1 t_.2.1 t_.2.2.1 t_.2.2.2.1 t_.2.2.2.2.1 t_.2.2.2.2.2.1 t_.2.2.2.2.2.2)
    (fun s => ∃ d : C, s = (d.ord, d.low, d.on, d.stk, d.opn, d.out, d.clk) ∧ Con G may d ∧ ∀ x, Tj.Ok G x → gt (st c.ord n (c.clk + 1)) x ≠ 0 → gt d.ord x ≠ 0)
    (fun r => ∃ d : C, r = .inl (d.ord, d.low, d.on, d.stk, d.opn, d.out, d.clk) ∧ Con G may d ∧ d.opn = [] ∧ ∀ x, Tj.Ok G x → gt (st c.ord n (c.clk + 1)) x ≠ 0 → gt d.ord x ≠ 0)
    (fun s => mu G ⟨s.1, s.2.1, s.2.2.1, s.2.2.2.1, s.2.2.2.2.1, s.2.2.2.2.2.1, s.2.2.2.2.2.2⟩) (fun s ⟨d, hs, hd, hx⟩ => by
      subst hs
      dsimp only
      by_cases hdo : d.opn = []
      · left
        refine ⟨_, ?_, d, rfl, hd, hdo, hx⟩
        unfold cycles_walk_from.l0b
        rw [hdo, if_neg (by simp)]
        rfl
      · right
        obtain ⟨e, e1, e2, e3, e4⟩ := round_run hd hN hrow hmay h.lo h.ll h.ln hdo
        exact ⟨_, e1, ⟨e, rfl, e2, fun x hx1 hx2 => e4 x hx1 (hx x hx1 hx2)⟩, e3⟩) _ ⟨_, rfl, hb, fun _ _ hx => hx⟩
  refine ⟨c', ?_, q1, q2, q3 n hn ?_, fun x hx hx0 => q3 x hx ?_⟩
  · have hl0 : cycles_walk_from.l0 G c.ord c.low c.on (st c.ord n (c.clk + 1)) (st c.low n (c.clk + 1)) (st c.on n true) (c.stk ++ [n]) (c.opn ++ [⟨n, 0⟩]) c.out (c.clk + 1) = some (.inl (c'.ord, c'.low, c'.on, c'.stk, c'.opn, c'.out, c'.clk)) := hr
    rw [hl0, jn_inl]
  · rw [gt_st hn.1 hno hn.1, if_pos rfl]; omega
  · rw [gt_st hn.1 hno hx.1]
    split
    · omega
    · exact hx0
/-- What the components of the nodes that may be are. -/
structure Parts (G : List (List Int)) (may : Int → Bool) (out : List (List Int)) : Prop where
  el : ∀ p ∈ out, ∀ x ∈ p, Tj.Ok G x ∧ may x = true
  all : ∀ x, Tj.Ok G x → may x = true → ∃ p ∈ out, x ∈ p
  ne : ∀ p ∈ out, p ≠ []
  cls : ∀ p ∈ out, ∀ x ∈ p, ∀ y, y ∈ p ↔ Rch G may x y ∧ Rch G may y x
  asc : ∀ p ∈ out, p.Pairwise (· < ·)
  dis : out.Pairwise (fun p q => ∀ x ∈ p, x ∉ q)
  len : (out.length : Int) ≤ G.length
theorem gt_rep {α : Type} [Inhabited α] (n : Nat) : gt (List.replicate n (default : α)) = fun _ => default := by
  funext x
  unfold gt
  rw [List.getD_eq_getElem?_getD, List.getElem?_replicate]
  split <;> rfl
theorem Con.zero (G : List (List Int)) (may : Int → Bool) : Con G may ⟨List.replicate G.length 0, List.replicate G.length 0, List.replicate G.length false, [], [], [], 0⟩ := by
  have h0 : gt (List.replicate G.length (0 : Int)) = fun _ => 0 := gt_rep (α := Int) G.length
  have h1 : gt (List.replicate G.length false) = fun _ => false := gt_rep (α := Bool) G.length
  have he : C.abs ⟨List.replicate G.length 0, List.replicate G.length 0, List.replicate G.length false, [], [], [], 0⟩ = ⟨fun _ => 0, fun _ => 0, [], [], 0⟩ := by simp [C.abs, h0]
  refine ⟨by rw [he]; exact Inv.init, by rw [he]; exact Out.init, by simp, by simp, by simp, fun x _ => ?_, fun x _ hx => ?_, by simp, by simp⟩
  · rw [h1]; simp
  · rw [h0] at hx; exact absurd rfl hx
theorem parts_run (hN : (G.length : Int) ≤ 1099511627776) (hrow : ∀ r ∈ G, (r.length : Int) ≤ 9223372036854775807) (hmay : ∀ m, Tj.Ok G m → cycles_Components_1.f m = some (may m)) :
    ∃ out, cycles_parts.f G = some (byHead out) ∧ Parts G may out := by
  unfold cycles_parts.f
  rw [if_pos ⟨by omega, by omega⟩, if_pos ⟨by omega, by omega⟩]
  obtain ⟨r, hr, d, rfl, q1, q2, q3⟩ := iter_meas (body := fun t_ : (List cycles_stand) × (List Int) × (List (List Int)) × (List Bool) × (List Int) × (List Int) × Int × Int => cycles_parts.l0b G t_.1 t_.2.1 t_.2.2.1 t_.2.2.2.1 t_.2.2.2.2.1 t_.2.2.2.2.2.1 t_.2.2.2.2.2.2.1 t_.2.2.2.2.2.2.2)
    (fun s => ∃ d : C, ∃ n : Int, s = (d.opn, d.stk, d.out, d.on, d.low, d.ord, d.clk, n) ∧ Con G may d ∧ d.opn = [] ∧ 0 ≤ n ∧ n ≤ (G.length : Int) ∧ ∀ x, 0 ≤ x → x < n → may x = true → gt d.ord x ≠ 0)
    (fun r => ∃ d : C, r = .inl (d.opn, d.stk, d.out, d.on, d.low, d.ord, d.clk) ∧ Con G may d ∧ d.opn = [] ∧ ∀ x, 0 ≤ x → x < (G.length : Int) → may x = true → gt d.ord x ≠ 0)
    (fun s => ((G.length : Int) - s.2.2.2.2.2.2.2).toNat) (fun s ⟨d, n, hs, hd, ho, hn0, hn1, hx⟩ => by
      subst hs
      dsimp only
      unfold cycles_parts.l0b
      by_cases hn : n < (G.length : Int)
      · right
        have hok : Tj.Ok G n := ⟨hn0, hn⟩
        rw [if_pos hn, if_pos ⟨hn0, by simp; omega⟩, wrap64 (x := n + 1) (by omega) (by omega)]
        by_cases h0 : gt d.ord n = 0
        · rw [if_pos h0, hmay n hok]
          simp only [Option.bind_some]
          rw [jn_inl]
          by_cases hy : may n = true
          · obtain ⟨e, e1, e2, e3, e4, e5⟩ := from_run hd hN hrow hmay ho hok hy h0
            rw [if_pos hy, e1]
            simp only [Option.bind_some]
            rw [jn_inl]
            refine ⟨_, rfl, ⟨e, n + 1, rfl, e2, e3, by omega, by omega, fun x x0 x1 xy => ?_⟩, by dsimp only; omega⟩
            by_cases hxn : x = n
            · rw [hxn]; exact e4
            · exact e5 x ⟨x0, by omega⟩ (hx x x0 (by omega) xy)
          · rw [if_neg hy, jn_inl]
            refine ⟨_, rfl, ⟨d, n + 1, rfl, hd, ho, by omega, by omega, fun x x0 x1 xy => ?_⟩, by dsimp only; omega⟩
            by_cases hxn : x = n
            · rw [hxn] at xy; exact absurd xy hy
            · exact hx x x0 (by omega) xy
        · rw [if_neg h0, jn_inl, if_neg (by simp), jn_inl]
          refine ⟨_, rfl, ⟨d, n + 1, rfl, hd, ho, by omega, by omega, fun x x0 x1 xy => ?_⟩, by dsimp only; omega⟩
          by_cases hxn : x = n
          · rw [hxn]; exact h0
          · exact hx x x0 (by omega) xy
      · left
        rw [if_neg hn]
        exact ⟨_, rfl, d, rfl, hd, ho, fun x x0 x1 xy => hx x x0 (by omega) xy⟩) ([], [], [], List.replicate (G.length : Int).toNat false, List.replicate (G.length : Int).toNat 0, List.replicate (G.length : Int).toNat 0, 0, 0) ⟨_, 0, rfl, Con.zero G may, rfl, Int.le_refl _, by omega, fun x x0 x1 => by omega⟩
  have hl0 : cycles_parts.l0 G [] [] [] (List.replicate (G.length : Int).toNat false) (List.replicate (G.length : Int).toNat 0) (List.replicate (G.length : Int).toNat 0) 0 0 = some (.inl (d.opn, d.stk, d.out, d.on, d.low, d.ord, d.clk)) := hr
  have hs : d.stk = [] := by
    cases hst : d.stk with
    | nil => rfl
    | cons x l =>
      obtain ⟨v, hv, _⟩ := q1.inv.s1 x (by show x ∈ d.stk; rw [hst]; simp)
      have := hv.1
      have h2 : d.abs.nodes = [] := by show (d.opn.map _).map _ = _; rw [q2]; rfl
      rw [h2] at this
      cases this
  have hP : Parts G may d.out := ⟨fun p hp x hx => by
      obtain ⟨a, b, _⟩ := q1.out.el p hp x hx
      exact ⟨a, q1.may x a b⟩,
    fun x hx hy => q1.out.all x hx (q3 x hx.1 hx.2 hy) (by show x ∉ d.stk; rw [hs]; simp), q1.out.ne, q1.out.cls, q1.out.asc, q1.out.dis, q1.out_len⟩
  rw [hl0, jn_inl]
  dsimp only
  have hsort : slices_SortFunc_int_int.f d.out = some (byHead d.out) := by
    unfold slices_SortFunc_int_int.f
    have hg : ∀ p ∈ d.out, gt p 0 ∈ p := fun p hp => gt_mem (Int.le_refl _) (by have := List.length_pos_iff.2 (hP.ne p hp); omega)
    have hc1 : ∀ x ∈ d.out, x ≠ [] ∧ 0 ≤ gt x 0 ∧ gt x 0 ≤ 4611686018427387904 := fun p hp => by
      have h1 := (hP.el p hp _ (hg p hp)).1
      exact ⟨hP.ne p hp, h1.1, by have := h1.2; omega⟩
    have hc2 : (d.out.map fun x => gt x 0).Nodup := by
      show (d.out.map fun x => gt x 0).Pairwise (· ≠ ·)
      rw [List.pairwise_map]
      exact hP.dis.imp_of_mem fun {p q} hp hq hpq e => hpq _ (hg p hp) (by rw [e]; exact hg q hq)
    have hc3 : d.out.length < 4611686018427387904 := by have := q1.out_len; omega
    rw [if_pos ⟨hc1, hc2, hc3⟩]
  rw [hsort]
  exact ⟨d.out, rfl, hP⟩
end
end Go.Bw
