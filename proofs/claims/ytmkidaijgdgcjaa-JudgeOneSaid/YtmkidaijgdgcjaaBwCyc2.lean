/- The walk of cycles under the levels' closure, held against Tarjan's invariant: written by cyc2.py out of Cyc1.lean. Conditions: none. -/
import Derived.Test.YtmkidaijgdgcjaaBwCyc1
set_option linter.unusedVariables false
set_option linter.unusedSimpArgs false
set_option linter.unusedSectionVars false
namespace Go.Bw
open Go Go.RowKit Tj
section
variable {G : List (List Int)} {may : Int → Bool} {c : C} {pr : List Int} {lv : Int}
theorem leave_run2 (h : Con G may c) (hN : (G.length : Int) ≤ 1099511627776) {o : List cycles_stand} {v k : Int} (ho : c.opn = o ++ [⟨v, k⟩]) (hk : k = ((gt G v).length : Int)) :
    ∃ c' : C, cycles_walk_leave_v2.f G pr lv c.ord c.low c.on c.stk c.opn c.clk c.out v = some (c'.low, c'.opn, c'.on, c'.stk, c'.out) ∧ c'.ord = c.ord ∧ c'.clk = c.clk ∧ c'.opn = o ∧ Con G may c' := by
  have ho' : c.abs.opn = (o.map fun t => (t.node, t.step)) ++ [(v, k)] := by show c.opn.map _ = _; rw [ho]; simp
  have hl := h.inv.last ho'
  have hvs : v ∈ c.stk := hl.1
  have hv : Tj.Ok G v := hl.2.1
  obtain ⟨s1, s2, hst⟩ := List.append_of_mem hvs
  obtain ⟨hs1, hs2⟩ := h.inv.split (v := v) (s1 := s1) (s2 := s2) hst
  have hn : v ∉ s1 := fun hv1 => by have := hs1 v hv1; omega
  have hsl := h.stk_len
  have hol := h.out_len
  have hop := h.opn_len
  have hok : ∀ x ∈ v :: s2, 0 ≤ x ∧ x < (c.on.length : Int) := fun x hx => by
    have : x ∈ c.abs.stk := by show x ∈ c.stk; rw [hst]; exact List.mem_append_right _ hx
    have := (h.inv.stk x this).1
    rw [h.ln]
    exact this
  obtain ⟨r1, r2, r3, r4, r5, r6⟩ := rest_run (s1 := s1) (s2 := s2) (v := v) (on := c.on) (out := c.out) hn (by rw [← hst]; omega) hok (by omega)
  have hpl : ((v :: s2).length : Int) ≤ 9223372036854775807 := by
    have : (v :: s2).length ≤ c.stk.length := by rw [hst]; simp
    omega
  obtain ⟨w1, w2, w3, _⟩ := open_last (o := o) (t := ⟨v, k⟩) (by rw [← ho]; omega)
  have hvl : (0 : Int) ≤ v ∧ v < (c.low.length : Int) := by rw [h.ll]; exact hv
  have hvo : (0 : Int) ≤ v ∧ v < (c.ord.length : Int) := by rw [h.lo]; exact hv
  unfold cycles_walk_leave_v2.f
  rw [ho, w1, w3, if_pos ⟨by omega, by simp; omega⟩]
  rcases List.eq_nil_or_concat o with rfl | ⟨o2, u, hcc⟩
  · rw [if_neg (by simp), if_pos hvl, if_pos hvo]
    have hnl : ¬ gt c.low v < gt c.ord v := fun hlt => by
      obtain ⟨_, z, hz, z1, _⟩ := h.inv.l1 v hl.2.2.2.1
      obtain ⟨b, hb, _⟩ := h.inv.s1 z hz
      have hbv : b = v := by have := hb.1; rw [nodes_app c.abs ho'] at this; simpa using this
      subst hbv
      have h1 := hb.2.1
      rw [z1] at h1
      have h2 : gt c.ord b ≤ gt c.low b := h1
      omega
    rw [if_neg hnl, hst, r1]
    obtain ⟨on', c1, c2, c3⟩ := clear_run (N := []) (part := v :: s2) (on := c.on) (on0 := c.on) (fun x i => cycles_walk_leave_v2.l1b c.on (v :: s2) x i) (fun x i => rfl) hok rfl hpl
    refine ⟨⟨c.ord, c.low, on', s1, [], c.out ++ [(v :: s2).mergeSort fun x y => decide (x ≤ y)], c.clk⟩, ?_, rfl, rfl, rfl, h.rest ho hk hnl hst h.ll (fun _ h => by cases h) (c2.trans h.ln) (fun y y0 y1 => c3 y y0 (by rw [h.ln]; exact y1))⟩
    simp only [Option.bind_some]
    rw [if_pos ⟨by omega, by simp; omega⟩, r2, r4]
    simp only [Option.bind_some]
    have hl1 : cycles_walk_leave_v2.l1 c.on (v :: s2) c.on 0 = some (.inl on') := c1
    rw [hl1, jn_inl, r5]
    simp only [Option.bind_some, r6, r3]
  · rw [List.concat_eq_append] at hcc
    subst hcc
    obtain ⟨x1, x2, x3, _⟩ := open_last (o := o2) (t := u) (by rw [ho] at hop; simp at hop ⊢; omega)
    have hoc : c.opn = (o2 ++ [u]) ++ [⟨v, k⟩] := ho
    have hu : Tj.Ok G u.node := (h.inv.stk _ (h.inv.opn (u.node, u.step) (by rw [ho']; simp)).1).1
    have hul : (0 : Int) ≤ u.node ∧ u.node < (c.low.length : Int) := by rw [h.ll]; exact hu
    have huv : u.node ≠ v := fun e => by
      have := h.inv.opi
      rw [ho', List.pairwise_append] at this
      have := this.2.2 (u.node, u.step) (by simp) (v, k) (by simp)
      have h3 : gt c.ord u.node < gt c.ord v := this
      rw [e] at h3
      omega
    have hlow' : gt (st c.low u.node (if gt c.low v < gt c.low u.node then gt c.low v else gt c.low u.node)) v = gt c.low v := by
      rw [gt_st hul.1 hul.2 hv.1, if_neg (fun e => huv e.symm)]
    rw [if_pos (by simp), x1, x2, if_pos ⟨by omega, by simp; omega⟩, if_pos hul, if_pos hvl, if_pos hvo, hlow']
    by_cases hlow : gt c.low v < gt c.ord v
    · rw [if_pos hlow]
      exact ⟨⟨c.ord, st c.low u.node (if gt c.low v < gt c.low u.node then gt c.low v else gt c.low u.node), c.on, c.stk, o2 ++ [u], c.out, c.clk⟩, rfl, rfl, rfl, rfl, h.join hoc hk hlow⟩
    · rw [if_neg hlow, hst, r1]
      obtain ⟨on', c1, c2, c3⟩ := clear_run (N := []) (part := v :: s2) (on := c.on) (on0 := c.on) (fun x i => cycles_walk_leave_v2.l0b c.on (v :: s2) x i) (fun x i => rfl) hok rfl hpl
      refine ⟨⟨c.ord, st c.low u.node (if gt c.low v < gt c.low u.node then gt c.low v else gt c.low u.node), on', s1, o2 ++ [u], c.out ++ [(v :: s2).mergeSort fun x y => decide (x ≤ y)], c.clk⟩, ?_, rfl, rfl, rfl, h.rest hoc hk hlow hst ((st_len _ _ _).trans h.ll) (fun t ht => ?_) (c2.trans h.ln) (fun y y0 y1 => c3 y y0 (by rw [h.ln]; exact y1))⟩
      · simp only [Option.bind_some]
        rw [if_pos ⟨by omega, by simp; omega⟩, r2, r4]
        simp only [Option.bind_some]
        have hl1 : cycles_walk_leave_v2.l0 c.on (v :: s2) c.on 0 = some (.inl on') := c1
        rw [hl1, jn_inl, r5]
        simp only [Option.bind_some, r6, r3]
      · -- what the open ones' low is: the one written is no less
        have htn : Tj.Ok G t.node := (h.inv.stk _ (h.inv.opn (t.node, t.step) (by show _ ∈ c.opn.map _; rw [hoc]; exact List.mem_map.2 ⟨t, List.mem_append_left _ ht, rfl⟩)).1).1
        rw [gt_st hul.1 hul.2 htn.1]
        by_cases htu : t.node = u.node
        · rw [if_pos htu, htu]
          have h1 := (h.inv.l1 u.node (by show u.node ∈ (c.opn.map _).map _; rw [hoc]; simp)).1
          have h2 : gt c.low u.node ≤ gt c.ord u.node := h1
          have h3 := h.inv.opi
          rw [ho', List.pairwise_append] at h3
          have h4 : gt c.ord u.node < gt c.ord v := h3.2.2 (u.node, u.step) (by simp) (v, k) (by simp)
          rw [if_neg (by omega)]
        · rw [if_neg htu]

theorem round_run2 (h : Con G may c) (hN : (G.length : Int) ≤ 1099511627776) (hrow : ∀ r ∈ G, (r.length : Int) ≤ 9223372036854775807) (hmay : ∀ m, Tj.Ok G m → cycles_Bad_2.f m pr lv = some (may m)) {z2 z3 : List Int} {z4 : List Bool} (l2 : z2.length = G.length) (l3 : z3.length = G.length) (l4 : z4.length = G.length) (hne : c.opn ≠ []) :
    ∃ c' : C, cycles_walk_from_v2.l0b G pr lv z2 z3 z4 c.ord c.low c.on c.stk c.opn c.out c.clk = some (.inl (c'.ord, c'.low, c'.on, c'.stk, c'.opn, c'.out, c'.clk)) ∧ Con G may c' ∧ mu G c' < mu G c ∧ ∀ x, Tj.Ok G x → gt c.ord x ≠ 0 → gt c'.ord x ≠ 0 := by
  obtain ⟨o, t, hcc⟩ := (List.eq_nil_or_concat c.opn).resolve_left hne
  rw [List.concat_eq_append] at hcc
  obtain ⟨v, k⟩ := t
  have ho := hcc
  have hop := h.opn_len
  obtain ⟨w1, w2, w3, w4⟩ := open_last (o := o) (t := ⟨v, k⟩) (by rw [← ho]; omega)
  have ho' : c.abs.opn = (o.map fun t => (t.node, t.step)) ++ [(v, k)] := by show c.opn.map _ = _; rw [ho]; simp
  have hl := h.inv.last ho'
  have hv : Tj.Ok G v := hl.2.1
  have hb := h.inv.opn (v, k) (by rw [ho']; simp)
  have hk0 : 0 ≤ k := hb.2.1
  have hk1 : k ≤ ((gt G v).length : Int) := hb.2.2
  have hrv : ((gt G v).length : Int) ≤ 9223372036854775807 := hrow _ (gt_mem hv.1 hv.2)
  have hpos : (0 : Int) < ((o ++ [(⟨v, k⟩ : cycles_stand)]).length : Int) := by rw [List.length_append]; simp
  unfold cycles_walk_from_v2.l0b
  rw [ho, w1, w2, if_pos hpos, if_pos ⟨by omega, by simp; omega⟩]
  dsimp only
  rw [if_pos (show (0 : Int) ≤ v ∧ v < (G.length : Int) from hv)]
  by_cases hkl : k = ((gt G v).length : Int)
  · obtain ⟨c', r1, r2, r3, r4, r5⟩ := leave_run2 (pr := pr) (lv := lv) h hN ho hkl
    rw [if_pos hkl, ← ho, r1]
    refine ⟨c', ?_, r5, ?_, fun x _ hx => by rw [r2]; exact hx⟩
    · simp only [Option.bind_some]
      rw [← r2, ← r3]
      rfl
    · simp only [mu]
      rw [r2, r4, ho]
      simp
      omega
  · rw [if_neg hkl, if_pos ⟨hk0, by omega⟩]
    have hkl' : k < ((gt G v).length : Int) := by omega
    have hw : IntKind.i64.wrap (k + 1) = k + 1 := wrap64 (by omega) (by omega)
    have hin : gt (gt G v) k ∈ gt G v := gt_mem hk0 hkl'
    rw [hw, w4]
    generalize hm : gt (gt G v) k = m at *
    have hskip : (∀ y, y = m → Ed G may v y → gt c.ord y ≠ 0 ∧ y ∉ c.stk) → Con G may ⟨c.ord, c.low, c.on, c.stk, o ++ [⟨v, k + 1⟩], c.out, c.clk⟩ := fun hn => h.skip ho hkl' (by rw [hm]; exact hn)
    have hmu : ∀ {a b : List Int} {f : List Bool}, mu G ⟨c.ord, b, f, c.stk, o ++ [⟨v, k + 1⟩], c.out, c.clk⟩ < mu G c := fun {a b f} => by
      have : c = ⟨c.ord, c.low, c.on, c.stk, o ++ [⟨v, k⟩], c.out, c.clk⟩ := by rw [← ho]
      rw [this]
      exact mu_app o ⟨v, k⟩ ⟨v, k + 1⟩ (by simp; omega)
    by_cases hmo : Tj.Ok G m
    · rw [if_neg (by have := hmo.1; omega), jn_inl]
      have hd : decide ((G.length : Int) ≤ m) = false := decide_eq_false (by have := hmo.2; omega)
      rw [hd, if_neg (by simp), hmay m hmo]
      simp only [Option.bind_some]
      rw [jn_inl]
      by_cases hy : may m = true
      · have e : Ed G may v m := ⟨hin, hmo, hy⟩
        rw [hy, if_neg (by simp), if_pos (by rw [l2]; exact hmo)]
        by_cases h0 : gt c.ord m = 0
        · rw [if_pos h0]
          have hc := h.clk_le
          have hsl := h.stk_len
          have hbo : ((o ++ [(⟨v, k + 1⟩ : cycles_stand)]).length + ([(⟨m, 0⟩ : cycles_stand)] : List cycles_stand).length) * 16 ≤ 140737488355328 := by
            rw [ho] at hop
            simp at hop ⊢
            omega
          unfold cycles_walk_meet_v2.f
          rw [wrap64 (x := c.clk + 1) (by omega) (by omega), if_pos (by rw [h.lo]; exact hmo), if_pos (by rw [h.ll]; exact hmo), if_pos (by rw [h.ln]; exact hmo), if_pos (by simp; omega), if_pos hbo]
          refine ⟨_, rfl, h.meet ho hkl' hm.symm e h0, ?_, fun x hx hx0 => by
            dsimp only
            rw [gt_st hmo.1 (by rw [h.lo]; exact hmo.2) hx.1]
            split
            · omega
            · exact hx0⟩
          have hcs := count_set (c := c.clk + 1) hmo.1 (by rw [h.lo]; exact hmo.2) h0 (by omega)
          have hls : (gt G m).length ≤ (G.map List.length).sum := le_sum (List.mem_map.2 ⟨_, gt_mem hmo.1 hmo.2, rfl⟩)
          simp only [mu]
          rw [ho, ← hcs, Nat.add_mul]
          simp
          omega
        · rw [if_neg h0, if_pos (by rw [l4]; exact hmo)]
          by_cases hs : gt c.on m = true
          · have hms : m ∈ c.stk := (h.on m hmo).1 hs
            have hg : gt (o ++ [(⟨v, k + 1⟩ : cycles_stand)]) (o.length : Int) = ⟨v, k + 1⟩ := gt_last
            rw [if_pos hs, hg]
            dsimp only
            rw [if_pos (by rw [l3]; exact hv)]
            exact ⟨_, rfl, h.back ho hkl' hm.symm e hms, hmu (a := []), fun _ _ hx => hx⟩
          · rw [if_neg hs]
            refine ⟨⟨c.ord, c.low, c.on, c.stk, o ++ [⟨v, k + 1⟩], c.out, c.clk⟩, rfl, hskip fun y hy' _ => ?_, hmu (a := []), fun _ _ hx => hx⟩
            subst hy'
            exact ⟨h0, fun hms => hs ((h.on y hmo).2 hms)⟩
      · have hy' : may m = false := by cases hh : may m <;> simp_all
        rw [hy', if_pos (by simp)]
        exact ⟨⟨c.ord, c.low, c.on, c.stk, o ++ [⟨v, k + 1⟩], c.out, c.clk⟩, rfl, hskip fun y hym e => by subst hym; exact absurd e.2.2 hy, hmu (a := []), fun _ _ hx => hx⟩
    · have hx : ∃ b, (if m < 0 then (some (.inl true) : Option (Bool ⊕ ((List Int × List Int × List Bool × List Int × List cycles_stand × List (List Int) × Int) ⊕ ((List Int × List Int × List Bool × List Int × List cycles_stand × List (List Int) × Int) ⊕ (List Int × List Int × List Bool × List Int × List cycles_stand × List (List Int) × Int))))) else some (.inl (decide ((G.length : Int) ≤ m)))) = some (.inl true) := ⟨true, by
        by_cases hm0 : m < 0
        · rw [if_pos hm0]
        · rw [if_neg hm0, decide_eq_true (show (G.length : Int) ≤ m from by
            rcases Int.lt_or_le m G.length with h' | h'
            · exact absurd ⟨by omega, h'⟩ hmo
            · exact h')]⟩
      obtain ⟨_, hx⟩ := hx
      rw [hx, jn_inl, if_pos rfl, jn_inl, if_pos rfl]
      exact ⟨⟨c.ord, c.low, c.on, c.stk, o ++ [⟨v, k + 1⟩], c.out, c.clk⟩, rfl, hskip fun y hym e => by subst hym; exact absurd e.2.1 hmo, hmu (a := []), fun _ _ hx => hx⟩

theorem from_run2 (h : Con G may c) (hN : (G.length : Int) ≤ 1099511627776) (hrow : ∀ r ∈ G, (r.length : Int) ≤ 9223372036854775807) (hmay : ∀ m, Tj.Ok G m → cycles_Bad_2.f m pr lv = some (may m)) (ho : c.opn = []) {n : Int} (hn : Tj.Ok G n) (hy : may n = true) (h0 : gt c.ord n = 0) :
    ∃ c' : C, cycles_walk_from_v2.f G pr lv c.ord c.low c.on c.stk c.opn c.clk c.out n = some (c'.ord, c'.low, c'.on, c'.stk, c'.opn, c'.out, c'.clk) ∧ Con G may c' ∧ c'.opn = [] ∧ gt c'.ord n ≠ 0 ∧ ∀ x, Tj.Ok G x → gt c.ord x ≠ 0 → gt c'.ord x ≠ 0 := by
  have hb := h.begin ho hn hy h0
  have hc := h.clk_le
  have hsl := h.stk_len
  have hno : n < (c.ord.length : Int) := by rw [h.lo]; exact hn.2
  unfold cycles_walk_from_v2.f cycles_walk_meet_v2.f
  rw [wrap64 (x := c.clk + 1) (by omega) (by omega), if_pos (by rw [h.lo]; exact hn), if_pos (by rw [h.ll]; exact hn), if_pos (by rw [h.ln]; exact hn), if_pos (by simp; omega), if_pos (by rw [ho]; simp)]
  simp only [Option.bind_some]
  obtain ⟨r, hr, c', rfl, q1, q2, q3⟩ := iter_meas (body := fun t_ : (List Int) × (List Int) × (List Bool) × (List Int) × (List cycles_stand) × (List (List Int)) × Int => cycles_walk_from_v2.l0b G pr lv c.ord c.low c.on t_.1 t_.2.1 t_.2.2.1 t_.2.2.2.1 t_.2.2.2.2.1 t_.2.2.2.2.2.1 t_.2.2.2.2.2.2)
    (fun s => ∃ d : C, s = (d.ord, d.low, d.on, d.stk, d.opn, d.out, d.clk) ∧ Con G may d ∧ ∀ x, Tj.Ok G x → gt (st c.ord n (c.clk + 1)) x ≠ 0 → gt d.ord x ≠ 0)
    (fun r => ∃ d : C, r = .inl (d.ord, d.low, d.on, d.stk, d.opn, d.out, d.clk) ∧ Con G may d ∧ d.opn = [] ∧ ∀ x, Tj.Ok G x → gt (st c.ord n (c.clk + 1)) x ≠ 0 → gt d.ord x ≠ 0)
    (fun s => mu G ⟨s.1, s.2.1, s.2.2.1, s.2.2.2.1, s.2.2.2.2.1, s.2.2.2.2.2.1, s.2.2.2.2.2.2⟩) (fun s ⟨d, hs, hd, hx⟩ => by
      subst hs
      dsimp only
      by_cases hdo : d.opn = []
      · left
        refine ⟨_, ?_, d, rfl, hd, hdo, hx⟩
        unfold cycles_walk_from_v2.l0b
        rw [hdo, if_neg (by simp)]
        rfl
      · right
        obtain ⟨e, e1, e2, e3, e4⟩ := round_run2 hd hN hrow hmay h.lo h.ll h.ln hdo
        exact ⟨_, e1, ⟨e, rfl, e2, fun x hx1 hx2 => e4 x hx1 (hx x hx1 hx2)⟩, e3⟩) _ ⟨_, rfl, hb, fun _ _ hx => hx⟩
  refine ⟨c', ?_, q1, q2, q3 n hn ?_, fun x hx hx0 => q3 x hx ?_⟩
  · have hl0 : cycles_walk_from_v2.l0 G pr lv c.ord c.low c.on (st c.ord n (c.clk + 1)) (st c.low n (c.clk + 1)) (st c.on n true) (c.stk ++ [n]) (c.opn ++ [⟨n, 0⟩]) c.out (c.clk + 1) = some (.inl (c'.ord, c'.low, c'.on, c'.stk, c'.opn, c'.out, c'.clk)) := hr
    rw [hl0, jn_inl]
  · rw [gt_st hn.1 hno hn.1, if_pos rfl]; omega
  · rw [gt_st hn.1 hno hx.1]
    split
    · omega
    · exact hx0

theorem parts_run2 (hN : (G.length : Int) ≤ 1099511627776) (hrow : ∀ r ∈ G, (r.length : Int) ≤ 9223372036854775807) (hmay : ∀ m, Tj.Ok G m → cycles_Bad_2.f m pr lv = some (may m)) :
    ∃ out, cycles_parts_v2.f G pr lv = some (byHead out) ∧ Parts G may out := by
  unfold cycles_parts_v2.f
  rw [if_pos ⟨by omega, by omega⟩, if_pos ⟨by omega, by omega⟩]
  obtain ⟨r, hr, d, rfl, q1, q2, q3⟩ := iter_meas (body := fun t_ : (List cycles_stand) × (List Int) × (List (List Int)) × (List Bool) × (List Int) × (List Int) × Int × Int => cycles_parts_v2.l0b G pr lv t_.1 t_.2.1 t_.2.2.1 t_.2.2.2.1 t_.2.2.2.2.1 t_.2.2.2.2.2.1 t_.2.2.2.2.2.2.1 t_.2.2.2.2.2.2.2)
    (fun s => ∃ d : C, ∃ n : Int, s = (d.opn, d.stk, d.out, d.on, d.low, d.ord, d.clk, n) ∧ Con G may d ∧ d.opn = [] ∧ 0 ≤ n ∧ n ≤ (G.length : Int) ∧ ∀ x, 0 ≤ x → x < n → may x = true → gt d.ord x ≠ 0)
    (fun r => ∃ d : C, r = .inl (d.opn, d.stk, d.out, d.on, d.low, d.ord, d.clk) ∧ Con G may d ∧ d.opn = [] ∧ ∀ x, 0 ≤ x → x < (G.length : Int) → may x = true → gt d.ord x ≠ 0)
    (fun s => ((G.length : Int) - s.2.2.2.2.2.2.2).toNat) (fun s ⟨d, n, hs, hd, ho, hn0, hn1, hx⟩ => by
      subst hs
      dsimp only
      unfold cycles_parts_v2.l0b
      by_cases hn : n < (G.length : Int)
      · right
        have hok : Tj.Ok G n := ⟨hn0, hn⟩
        rw [if_pos hn, if_pos ⟨hn0, by simp; omega⟩, wrap64 (x := n + 1) (by omega) (by omega)]
        by_cases h0 : gt d.ord n = 0
        · rw [if_pos h0, hmay n hok]
          simp only [Option.bind_some]
          rw [jn_inl]
          by_cases hy : may n = true
          · obtain ⟨e, e1, e2, e3, e4, e5⟩ := from_run2 hd hN hrow hmay ho hok hy h0
            rw [if_pos hy, e1]
            simp only [Option.bind_some]
            rw [jn_inl]
            refine ⟨_, rfl, ⟨e, n + 1, rfl, e2, e3, by omega, by omega, fun x x0 x1 xy => ?_⟩, by dsimp only; omega⟩
            by_cases hxn : x = n
            · rw [hxn]; exact e4
            · exact e5 x ⟨x0, by omega⟩ (hx x x0 (by omega) xy)
          · rw [if_neg hy, jn_inl]
            refine ⟨_, rfl, ⟨d, n + 1, rfl, hd, ho, by omega, by omega, fun x x0 x1 xy => ?_⟩, by dsimp only; omega⟩
            by_cases hxn : x = n
            · rw [hxn] at xy; exact absurd xy hy
            · exact hx x x0 (by omega) xy
        · rw [if_neg h0, jn_inl, if_neg (by simp), jn_inl]
          refine ⟨_, rfl, ⟨d, n + 1, rfl, hd, ho, by omega, by omega, fun x x0 x1 xy => ?_⟩, by dsimp only; omega⟩
          by_cases hxn : x = n
          · rw [hxn]; exact h0
          · exact hx x x0 (by omega) xy
      · left
        rw [if_neg hn]
        exact ⟨_, rfl, d, rfl, hd, ho, fun x x0 x1 xy => hx x x0 (by omega) xy⟩) ([], [], [], List.replicate (G.length : Int).toNat false, List.replicate (G.length : Int).toNat 0, List.replicate (G.length : Int).toNat 0, 0, 0) ⟨_, 0, rfl, Con.zero G may, rfl, Int.le_refl _, by omega, fun x x0 x1 => by omega⟩
  have hl0 : cycles_parts_v2.l0 G pr lv [] [] [] (List.replicate (G.length : Int).toNat false) (List.replicate (G.length : Int).toNat 0) (List.replicate (G.length : Int).toNat 0) 0 0 = some (.inl (d.opn, d.stk, d.out, d.on, d.low, d.ord, d.clk)) := hr
  have hs : d.stk = [] := by
    cases hst : d.stk with
    | nil => rfl
    | cons x l =>
      obtain ⟨v, hv, _⟩ := q1.inv.s1 x (by show x ∈ d.stk; rw [hst]; simp)
      have := hv.1
      have h2 : d.abs.nodes = [] := by show (d.opn.map _).map _ = _; rw [q2]; rfl
      rw [h2] at this
      cases this
  have hP : Parts G may d.out := ⟨fun p hp x hx => by
      obtain ⟨a, b, _⟩ := q1.out.el p hp x hx
      exact ⟨a, q1.may x a b⟩,
    fun x hx hy => q1.out.all x hx (q3 x hx.1 hx.2 hy) (by show x ∉ d.stk; rw [hs]; simp), q1.out.ne, q1.out.cls, q1.out.asc, q1.out.dis, q1.out_len⟩
  rw [hl0, jn_inl]
  dsimp only
  have hsort : slices_SortFunc_int_int.f d.out = some (byHead d.out) := by
    unfold slices_SortFunc_int_int.f
    have hg : ∀ p ∈ d.out, gt p 0 ∈ p := fun p hp => gt_mem (Int.le_refl _) (by have := List.length_pos_iff.2 (hP.ne p hp); omega)
    have hc1 : ∀ x ∈ d.out, x ≠ [] ∧ 0 ≤ gt x 0 ∧ gt x 0 ≤ 4611686018427387904 := fun p hp => by
      have h1 := (hP.el p hp _ (hg p hp)).1
      exact ⟨hP.ne p hp, h1.1, by have := h1.2; omega⟩
    have hc2 : (d.out.map fun x => gt x 0).Nodup := by
      show (d.out.map fun x => gt x 0).Pairwise (· ≠ ·)
      rw [List.pairwise_map]
      exact hP.dis.imp_of_mem fun {p q} hp hq hpq e => hpq _ (hg p hp) (by rw [e]; exact hg q hq)
    have hc3 : d.out.length < 4611686018427387904 := by have := q1.out_len; omega
    rw [if_pos ⟨hc1, hc2, hc3⟩]
  rw [hsort]
  exact ⟨d.out, rfl, hP⟩
end
end Go.Bw
