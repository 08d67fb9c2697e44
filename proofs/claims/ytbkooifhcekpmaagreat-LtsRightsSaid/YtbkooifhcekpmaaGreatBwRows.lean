/- Rows of rows of the call's own. Conditions: none. -/
import Derived.Test.YtbkooifhcekpmaaGreatBwMore
set_option linter.unusedVariables false
set_option linter.unusedSimpArgs false
set_option linter.unusedSectionVars false
namespace Go.Bw
open Go Go.RowKit

theorem stars_append : ∀ {L l : List HProp} {h : PHeap}, stars (L ++ l) h ↔ ∃ h1 h2, stars L h1 ∧ stars l h2 ∧ Disj h1 h2 ∧ Sub h1 h ∧ Sub h2 h
  | [], l, h => ⟨fun s => ⟨fun _ => none, h, trivial, s, (fun _ _ _ e => by cases e), (fun _ _ e => by cases e), Sub.refl _⟩, fun ⟨_, h2, _, s, _, _, s2⟩ => stars_sub s s2⟩
  | c :: L, l, h => by
    constructor
    · rintro ⟨k1, k2, a, b, d, s1, s2⟩
      obtain ⟨m1, m2, x, y, d2, t1, t2⟩ := stars_append.1 b
      exact ⟨uni k1 m1, m2, ⟨k1, m1, a, x, d.sub (Sub.refl _) t1, uni_left _ _, uni_right (d.sub (Sub.refl _) t1)⟩, y, Disj.uni_l (d.sub (Sub.refl _) t2) d2, uni_sub s1 (t1.trans s2), t2.trans s2⟩
    · rintro ⟨h1, h2, ⟨k1, k2, a, b, d, s1, s2⟩, y, d2, t1, t2⟩
      have dk : Disj k1 h2 := d2.sub s1 (Sub.refl _)
      have dk2 : Disj k2 h2 := d2.sub s2 (Sub.refl _)
      exact ⟨k1, uni k2 h2, a, stars_append.2 ⟨k2, h2, b, y, dk2, uni_left _ _, uni_right dk2⟩, Disj.uni_r d dk, s1.trans t1, uni_sub (s2.trans t1) t2⟩
theorem sat.flat {R : Res} {L l : List HProp} {w : World} : sat R (stars L :: l) w ↔ sat R (L ++ l) w := by
  constructor
  · rintro ⟨ok, h, ⟨h1, h2, a, b, d, s1, s2⟩, dR, s⟩
    exact ⟨ok, h, stars_append.2 ⟨h1, h2, a, b, d, s1, s2⟩, dR, s⟩
  · rintro ⟨ok, h, a, dR, s⟩
    obtain ⟨h1, h2, a, b, d, s1, s2⟩ := stars_append.1 a
    exact ⟨ok, h, ⟨h1, h2, a, b, d, s1, s2⟩, dR, s⟩
theorem sat.ex {R : Res} {β : Type} {P : β → HProp} {l : List HProp} {w : World} : sat R ((fun h => ∃ b, P b h) :: l) w ↔ ∃ b, sat R (P b :: l) w := by
  constructor
  · rintro ⟨ok, h, ⟨h1, h2, ⟨b, a⟩, r⟩, d⟩
    exact ⟨b, ok, h, ⟨h1, h2, a, r⟩, d⟩
  · rintro ⟨b, ok, h, ⟨h1, h2, a, r⟩, d⟩
    exact ⟨ok, h, ⟨h1, h2, ⟨b, a⟩, r⟩, d⟩
theorem stars_get : ∀ {L : List HProp} {h : PHeap} {i : Nat} {c : HProp}, stars L h → L[i]? = some c → ∃ h', c h' ∧ Sub h' h
  | [], _, _, _, _, e => by simp at e
  | c :: L, h, 0, c', ⟨h1, _, a, _, _, s1, _⟩, e => by simp at e; subst e; exact ⟨h1, a, s1⟩
  | c :: L, h, i + 1, c', ⟨_, h2, _, b, _, _, s2⟩, e => let ⟨h', x, y⟩ := stars_get b (by simpa using e); ⟨h', x, y.trans s2⟩

variable {α : Type}
def hdrs (bs : List (Option Addr × Nat)) (xss : List (List α)) : List Value := List.zipWith (fun b xs => .slice b.1 xs.length b.2) bs xss
def inns (F : Fl α) (ei : Nat) (bs : List (Option Addr × Nat)) (xss : List (List α)) : List HProp := List.zipWith (fun b xs => row F ei b.1 xs.length b.2 xs) bs xss
def rows (F : Fl α) (ei e : Nat) (A : Option Addr) (n c : Nat) (xss : List (List α)) : HProp := fun h =>
  ∃ bs : List (Option Addr × Nat), (fun h => bs.length = xss.length ∧ stars (own e 1 A n c (hdrs bs xss) :: inns F ei bs xss) h) h
theorem hdrs_len {bs : List (Option Addr × Nat)} {xss : List (List α)} (h : bs.length = xss.length) : (hdrs bs xss).length = xss.length := by simp [hdrs, h]
theorem hdrs_app {bs : List (Option Addr × Nat)} {xss : List (List α)} (h : bs.length = xss.length) (b : Option Addr × Nat) (ys : List α) : hdrs (bs ++ [b]) (xss ++ [ys]) = hdrs bs xss ++ [.slice b.1 ys.length b.2] := by
  unfold hdrs
  rw [List.zipWith_append h]
  rfl
theorem inns_app {F : Fl α} {ei : Nat} {bs : List (Option Addr × Nat)} {xss : List (List α)} (h : bs.length = xss.length) (b : Option Addr × Nat) (ys : List α) : inns F ei (bs ++ [b]) (xss ++ [ys]) = inns F ei bs xss ++ [row F ei b.1 ys.length b.2 ys] := by
  unfold inns
  rw [List.zipWith_append h]
  rfl
theorem sat.rows {R : Res} {F : Fl α} {ei e : Nat} {A : Option Addr} {n c : Nat} {xss : List (List α)} {l : List HProp} {w : World} :
    sat R (Bw.rows F ei e A n c xss :: l) w ↔ ∃ bs : List (Option Addr × Nat), bs.length = xss.length ∧ sat R (own e 1 A n c (hdrs bs xss) :: (inns F ei bs xss ++ l)) w := by
  unfold Bw.rows
  rw [sat.ex]
  constructor
  · rintro ⟨bs, h⟩
    have hb : bs.length = xss.length := let ⟨_, o, _⟩ := h.head; o.1
    exact ⟨bs, hb, sat.flat.1 (h.imp fun h o => o.2)⟩
  · rintro ⟨bs, hb, h⟩
    exact ⟨bs, (sat.flat.2 h).imp fun h o => ⟨hb, o⟩⟩
theorem rows_len {F : Fl α} {ei e : Nat} {A : Option Addr} {n c : Nat} {xss : List (List α)} {h : PHeap} (o : rows F ei e A n c xss h) : xss.length = n ∧ n ≤ c := by
  obtain ⟨bs, hb, h1, _, o, _⟩ := o
  have := o.1
  rw [hdrs_len hb, Nat.mul_one] at this
  refine ⟨this, ?_⟩
  rcases o.2 with ⟨_, h0, h1⟩ | ⟨g, cur, _, _, h3, _⟩
  · omega
  · exact h3
section
variable {P : Program} [Tys P] {os : List Oper} {Q : Exit → Act → World → Prop} {rest : List Oper} {n : Nat} {ds : List Deferred} {R : Res} {env : List (Nat × Value)} {l l' : List HProp}
variable {d ty : Nat} {pos : String} {af : Array Edge} {g : Option (Nat × Bool)} [Inhabited α] {F : Fl α} {e ei t : Nat} {A : Option Addr} {c m : Nat} {xss : List (List α)} {ys : List α} {K : Act → World → Prop} {dd : Option Nat}
theorem At.nilRows (F : Fl α) (ei e : Nat) (h : At n ds R env (rows F ei e none 0 0 [] :: l) K) : At n ds R env l K := fun a w e0 hs => h a w e0 (by
  obtain ⟨ok, k, s, d⟩ := hs
  exact ⟨ok, k, stars_add ⟨[], rfl, stars_add ⟨rfl, .inl ⟨rfl, rfl, rfl⟩⟩ trivial⟩ s, d⟩)
theorem At.rowsLen (f : Frt l (rows F ei e A m c xss) l') (h : xss.length = m → m ≤ c → At n ds R env l K) : At n ds R env l K := fun a w e0 hs =>
  let ⟨_, o, _⟩ := (hs.frt f).head
  h (rows_len o).1 (rows_len o).2 a w e0 hs
/-- A literal of values of one cell each. -/
def Fl.val : Fl { v : Value // v.oneCell' = true } := ⟨1, fun v => [v.1], fun _ => rfl, fun v u hu => by simp at hu; subst hu; exact v.2, by decide⟩
theorem flat_val (vs : List { v : Value // v.oneCell' = true }) : vs.flatMap Fl.val.enc = vs.map (·.1) := by
  induction vs with
  | nil => rfl
  | cons v vs ih => simp [ih, Fl.val]
theorem At.litV (hg : grd os env g = some true) {len : Nat} {ps : Array (Nat × Operand)} {xo : List Operand} {vs : List Value} {ii j : TI} (hi : ti P t = some ii) (hk : ii.k = .slice e) (hj : ti P e = some j) (hjs : j.size = 1)
    (hp : ps.toList = xo.zipIdx.map fun p => (p.2, p.1)) (hv : vals env xo = some vs) (h1 : vs.all (fun v => v.oneCell' && match v with | .agg _ => false | _ => true) = true) (hl : len = vs.length) (hb : Nat.ble len 16777216 = true) (hz : j.zero.length = j.size) (hd : Nat.blt d n = true)
    (h : ∀ A c, At n ds R ((d, .slice A vs.length c) :: env) (own e 1 A vs.length c vs :: l) (wpList P os.toArray Q rest)) :
    At n ds R env l (wpList P os.toArray Q (⟨some d, .buildSlice t len ps, ty, pos, af, g⟩ :: rest)) := by
  have h1' : ∀ v ∈ vs, v.oneCell' = true ∧ v.cells = #[v] := fun v hv => by
    have := List.all_eq_true.1 h1 v hv
    simp only [Bool.and_eq_true] at this
    refine ⟨this.1, ?_⟩
    cases v <;> first | rfl | (simp at this)
  have : Inhabited { v : Value // v.oneCell' = true } := ⟨⟨.nilFunc, rfl⟩⟩
  have key : (vs.attach.map fun v => (⟨v.1, (h1' v.1 v.2).1⟩ : { v : Value // v.oneCell' = true })).map (·.1) = vs := by simp
  refine At.lit hg (xo := xo) (vs := vs) (ys := vs.attach.map fun v => ⟨v.1, (h1' v.1 v.2).1⟩) Fl.val hi hk hj hjs hp hv ?_ (by simp [hl]) (by show Nat.ble (len * 1) _ = true; rw [Nat.mul_one]; exact hb) hz hd fun A c => ?_
  · apply List.ext_getElem?
    intro q
    by_cases hq : q < vs.length
    · have hm : vs[q] ∈ vs := List.getElem_mem hq
      simp [hq, Fl.val, (h1' _ hm).2]
    · rw [List.getElem?_eq_none (by simp; omega), List.getElem?_eq_none (by simp; omega)]
  · have := h A c
    unfold row
    rw [flat_val, key]
    simpa [Fl.val] using this
/-- Headers and the rows that they lead to: one. -/
theorem At.packRows (bs : List (Option Addr × Nat)) (xss : List (List α)) (F : Fl α) (ei : Nat) (hb : bs.length = xss.length) (h : At n ds R env (rows F ei e A m c xss :: l) K) : At n ds R env (own e 1 A m c (hdrs bs xss) :: (inns F ei bs xss ++ l)) K :=
  fun a w e0 hs => h a w e0 (sat.rows.2 ⟨bs, hb, hs⟩)
/-- A row of the call's own goes into a row of rows. -/
theorem At.appendRow (hg : grd os env g = some true) {x y : Operand} {B T : Option Addr} {k cb ct bytes : Nat} {ii j : TI} {l1 l2 : List HProp} (f : Frt l (rows F ei e A m c xss) l1) (f2 : Frt l1 (own e 1 T 1 ct [.slice B k cb]) l2) (f3 : Frt l2 (row F ei B k cb ys) l')
    (hi : ti P t = some ii) (hk : ii.k = .slice e) (hj : ti P e = some j) (hjs : j.size = 1) (hjb : j.bytes = bytes)
    (hx : ev env x = some (.slice A m c)) (hy : ev env y = some (.slice T 1 ct)) (hz : j.zero.length = j.size) (hb : (m + 1) * bytes ≤ 140737488355328) (hb0 : 0 < bytes) (hd : Nat.blt d n = true)
    (h : ∀ A' c', At n ds R ((d, .slice A' (xss ++ [ys]).length c') :: env) (rows F ei e A' (xss ++ [ys]).length c' (xss ++ [ys]) :: l') (wpList P os.toArray Q rest)) :
    At n ds R env l (wpList P os.toArray Q (⟨some d, .call ⟨.builtin .append, #[x, y], #[t, t]⟩, ty, pos, af, g⟩ :: rest)) := op_ex hg rfl hd fun a w e0 hs => by
  -- the pieces, all in sight
  have h1 := hs.frt f
  obtain ⟨bs, hbl, h2⟩ := sat.rows.1 h1
  have hml : xss.length = m := let ⟨_, o, _⟩ := h1.head; (rows_len o).1
  -- the temporary and the row, read off l1
  have hf2 : sat R (own e 1 T 1 ct [.slice B k cb] :: l2) w := (h1.drop).frt f2
  have hf3 : sat R (row F ei B k cb ys :: l') w := hf2.drop.frt f3
  have hkl : ys.length = k := let ⟨_, o, _⟩ := hf3.head; row_len o
  subst hkl hml
  obtain ⟨ht, oT, sT⟩ := hf2.head
  have hT : ∃ g0 cur, T = some ⟨g0, 0, none⟩ ∧ ht g0 = some (.cells cur e) ∧ cur.toList.take 1 = [.slice B ys.length cb] := by
    rcases oT.2 with ⟨_, h0, _⟩ | ⟨g0, cur, a1, a2, _, _, _, a6⟩
    · cases h0
    · exact ⟨g0, cur, a1, a2, by simpa using a6⟩
  obtain ⟨g0, cur, rfl, hg0, hcur⟩ := hT
  have hnews : ∀ j' u, [Value.slice B ys.length cb][j']? = some u → w.cell? ((⟨g0, 0, none⟩ : Addr).add j') = some u := fun j' u hu => by
    have hgw := sT g0 _ hg0
    simp only [wh] at hgw
    rw [add_lit, Nat.zero_add]
    rw [← hcur, List.getElem?_take] at hu
    split at hu
    · simpa [World.cell?, hgw] using hu
    · cases hu
  -- the list, so that the outer row stands first and what is no more needed is away
  have h3 : sat R (own e 1 A xss.length c (hdrs bs xss) :: (inns F ei bs xss ++ (row F ei B ys.length cb ys :: l'))) w := by
    obtain ⟨ok, hh, ⟨p1, p2, q1, q2, q3, q4, q5⟩, dR, ss⟩ := h2
    obtain ⟨r1, r2, u1, u2, u3, u4, u5⟩ := stars_append.1 q2
    have v1 := stars_frt f2 u2
    obtain ⟨_, z2, _, z4, _, _, z7⟩ := v1
    have v3 := stars_sub (stars_frt f3 z4) z7
    exact ⟨ok, hh, ⟨p1, p2, q1, stars_append.2 ⟨r1, r2, u1, v3, u3, u4, u5⟩, q3, q4, q5⟩, dR, ss⟩
  obtain ⟨ho, oo, so⟩ := h3.head
  obtain ⟨xi, z, hxi, hsz, hby, hze, hzc⟩ := (ti_ok hj).info
  have hm : xss.length + 1 ≤ maxLen := by
    have : xss.length + 1 ≤ (xss.length + 1) * bytes := Nat.le_mul_of_pos_right _ hb0
    simp only [maxLen]; omega
  obtain ⟨v', w', hr, ho', hgr, _, hob⟩ := run_append_own_at (P := P) w 0 t ty e xi z 1 bytes ((ti_ok hi).slice hk) hxi hze (by omega) (by omega) (by rw [hzc]; simp; omega) (by decide) (.slice A xss.length c) xss.length (hdrs bs xss) (own_world oo so) ⟨g0, 0, none⟩ 1 ct [.slice B ys.length cb] (by simp) hnews (by simp [Value.oneCell']) hm hb (Nat.zero_le _)
  obtain ⟨A', c', rfl, h4⟩ := h3.grown hgr (run_drawn _ hr) ho' (hob.imp id fun e => ⟨_, e, Nat.le_refl _⟩)
  refine ⟨.slice A' (xss.length + 1) c', w', Bw.rows F ei e A' (xss.length + 1) c' (xss ++ [ys]) :: l', ?_, ?_, by have := h A' c'; simpa using this⟩
  · simp only [execOp, resolve, invoke, builtin, Sem.run_bind, Sem.run_pure, Result.andThen_ok, List.map_toArray, List.map_cons, List.map_nil, e0.ev hx, e0.ev hy, hr]
  · refine sat.rows.2 ⟨bs ++ [(B, cb)], by simp [hbl], ?_⟩
    rw [hdrs_app hbl, inns_app hbl, List.append_assoc]
    exact h4
/-- Rows of rows, frozen for a while. -/
theorem rows_rd {h H : PHeap} (o : rows F ei e A m c xss h) (s : Sub h H) : RdS F.rep.slice H A xss := fun i x hx => by
  have hi : i < xss.length := (List.getElem?_eq_some_iff.1 hx).1
  obtain ⟨bs, hb, h1, h2, ow, inn, _, s1, s2⟩ := o
  have hbi : i < bs.length := by omega
  have hrow : (inns F ei bs xss)[i]? = some (row F ei bs[i].1 x.length bs[i].2 x) := by
    unfold inns
    rw [List.getElem?_zipWith, List.getElem?_eq_getElem hbi, hx]
  obtain ⟨h', ro, sr⟩ := stars_get inn hrow
  have hm : (hdrs bs xss)[i]? = some (.slice bs[i].1 x.length bs[i].2) := by
    unfold hdrs
    rw [List.getElem?_zipWith, List.getElem?_eq_getElem hbi, hx]
  have hlen : xss.length = m := by have := ow.1; rw [hdrs_len hb, Nat.mul_one] at this; exact this
  rcases ow.2 with ⟨_, h0, _⟩ | ⟨g, cur, rfl, hg, h3, h4, h5, h6⟩
  · omega
  · refine ⟨_, [.slice bs[i].1 x.length bs[i].2], rfl, ⟨bs[i].1, bs[i].2, rfl, row_le ro, row_rd ro (sr.trans (s2.trans s))⟩, fun j u hu => ?_⟩
    match j, hu with
    | 0, hu =>
      simp at hu
      subst hu
      rw [addr_add_add, add_lit, Nat.zero_add, show (i * (F.rep.slice).sz + 0) = i from by show i * 1 + 0 = i; omega]
      refine ⟨cur, e, (0, 0), s g _ (s1 g _ hg), rfl, ?_⟩
      rw [← h6, List.getElem?_take] at hm
      split at hm
      · simpa using hm
      · cases hm
theorem At.freezeRows (f : Frt l (rows F ei e A m c xss) l')
    (k : ∀ R', RdS F.rep.slice R'.heap A xss → xss.length = m → m ≤ c → Sub R.heap R'.heap → (∀ l w, sat R' l w → sat R (rows F ei e A m c xss :: l) w) → At n ds R' env l' K) : At n ds R env l K := fun a w e0 hs => by
  obtain ⟨h1, o, dj, hs'⟩ := (hs.frt f).freeze
  exact k (R.add h1) (rows_rd o (uni_left _ _)) (rows_len o).1 (rows_len o).2 (uni_right dj) (fun l w h => h.thaw o dj) a w e0 hs'
end
end Go.Bw
