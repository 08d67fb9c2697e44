/- Rows that hold, behind their length, numbers that are known. Conditions: none. -/
import Derived.Test.YtbkooifhcekpmaaGreatBwMix
set_option linter.unusedVariables false
set_option linter.unusedSimpArgs false
set_option linter.unusedSectionVars false
namespace Go.Bw
open Go Go.RowKit

section
variable {α : Type}
def sinns (F : Fl α) (ei : Nat) (bs : List (Option Addr × Nat)) (pss : List (List α × List α)) : List HProp := List.zipWith (fun b p => row F ei b.1 (p.1 ++ p.2).length b.2 (p.1 ++ p.2)) bs pss
/-- Rows of the call's own, each with what lies behind it. -/
def srows (F : Fl α) (ei e : Nat) (A : Option Addr) (n c : Nat) (pss : List (List α × List α)) : HProp := fun h =>
  ∃ bs : List (Option Addr × Nat), (fun h => bs.length = pss.length ∧ stars (own e 1 A n c (hdrs bs (pss.map (·.1))) :: sinns F ei bs pss) h) h
/-- A slice that is read, with what lies behind it. -/
def Rep.sp (T : Rep α) : Rep (List α × List α) := ⟨1, fun H p cs => ∃ A c, cs = [.slice A p.1.length c] ∧ (p.1 ++ p.2).length ≤ c ∧ RdS T H A (p.1 ++ p.2),
  fun ⟨_, _, h, _⟩ => by rw [h]; rfl, fun s ⟨A, c, h1, h2, h3⟩ => ⟨A, c, h1, h2, h3.mono s⟩, by decide⟩
theorem RdS.pre {T : Rep α} {H : PHeap} {A : Option Addr} {xs ys : List α} (h : RdS T H A (xs ++ ys)) : RdS T H A xs := by
  have := h.take xs.length
  simpa using this
theorem RdS.split {T : Rep α} {H : PHeap} {A : Option Addr} {xs : List α} (h : RdS T H A xs) (k : Nat) : RdS T H A (xs.take k ++ xs.drop k) := by
  rw [List.take_append_drop]; exact h
theorem len_split {xs : List α} {c : Nat} (k : Nat) (h : xs.length ≤ c) : (xs.take k ++ xs.drop k).length ≤ c := by
  rw [List.take_append_drop]; exact h
theorem RdS.fst {T : Rep α} {H : PHeap} {A : Option Addr} {pss : List (List α × List α)} (h : RdS T.sp H A pss) : RdS T.slice H A (pss.map (·.1)) := fun i x hx => by
  rw [List.getElem?_map] at hx
  obtain ⟨p, hp, rfl⟩ := Option.map_eq_some_iff.1 hx
  obtain ⟨ad, cs, h1, ⟨B, c, h2, h3, h4⟩, h5⟩ := h i p hp
  exact ⟨ad, cs, h1, ⟨B, c, h2, by simp at h3; omega, h4.pre⟩, h5⟩
theorem sat.srows {R : Res} {F : Fl α} {ei e : Nat} {A : Option Addr} {n c : Nat} {pss : List (List α × List α)} {l : List HProp} {w : World} :
    sat R (Bw.srows F ei e A n c pss :: l) w ↔ ∃ bs : List (Option Addr × Nat), bs.length = pss.length ∧ sat R (own e 1 A n c (hdrs bs (pss.map (·.1))) :: (sinns F ei bs pss ++ l)) w := by
  unfold Bw.srows
  rw [sat.ex]
  constructor
  · rintro ⟨bs, h⟩
    have hb : bs.length = pss.length := let ⟨_, o, _⟩ := h.head; o.1
    exact ⟨bs, hb, sat.flat.1 (h.imp fun h o => o.2)⟩
  · rintro ⟨bs, hb, h⟩
    exact ⟨bs, (sat.flat.2 h).imp fun h o => ⟨hb, o⟩⟩
theorem srows_len {F : Fl α} {ei e : Nat} {A : Option Addr} {n c : Nat} {pss : List (List α × List α)} {h : PHeap} (o : srows F ei e A n c pss h) : pss.length = n ∧ n ≤ c := by
  obtain ⟨bs, hb, h1, _, o, _⟩ := o
  have := o.1
  rw [hdrs_len (by simpa using hb), Nat.mul_one, List.length_map] at this
  refine ⟨this, ?_⟩
  rcases o.2 with ⟨_, h0, h1⟩ | ⟨g, cur, _, _, h3, _⟩
  · omega
  · exact h3
theorem sinns_get {F : Fl α} {ei : Nat} {bs : List (Option Addr × Nat)} {pss : List (List α × List α)} {i : Nat} {b : Option Addr × Nat} {p : List α × List α} (hb : bs[i]? = some b) (hx : pss[i]? = some p) : (sinns F ei bs pss)[i]? = some (row F ei b.1 (p.1 ++ p.2).length b.2 (p.1 ++ p.2)) := by
  unfold sinns
  rw [List.getElem?_zipWith, hb, hx]
end
section
variable {P : Program} [Tys P] {os : List Oper} {Q : Exit → Act → World → Prop} {rest : List Oper} {n : Nat} {ds : List Deferred} {R : Res} {env : List (Nat × Value)} {l l' : List HProp}
variable {d ty : Nat} {pos : String} {af : Array Edge} {g : Option (Nat × Bool)} {α : Type} [Inhabited α] {F : Fl α} {T : Rep α} {e ei t : Nat} {A : Option Addr} {c m : Nat} {pss : List (List α × List α)} {xs zs : List α} {K : Act → World → Prop} {dd : Option Nat}
theorem At.nilSrows (F : Fl α) (ei e : Nat) (h : At n ds R env (srows F ei e none 0 0 [] :: l) K) : At n ds R env l K := fun a w e0 hs => h a w e0 (by
  obtain ⟨ok, k, s, d⟩ := hs
  exact ⟨ok, k, stars_add ⟨[], rfl, stars_add ⟨rfl, .inl ⟨rfl, rfl, rfl⟩⟩ trivial⟩ s, d⟩)
theorem At.srowsLen (f : Frt l (srows F ei e A m c pss) l') (h : pss.length = m → m ≤ c → At n ds R env l K) : At n ds R env l K := fun a w e0 hs =>
  let ⟨_, o, _⟩ := (hs.frt f).head
  h (srows_len o).1 (srows_len o).2 a w e0 hs
theorem srows_rd {h H : PHeap} (o : srows F ei e A m c pss h) (s : Sub h H) : RdS F.rep.sp H A pss := fun i x hx => by
  have hi : i < pss.length := (List.getElem?_eq_some_iff.1 hx).1
  obtain ⟨bs, hb, h1, h2, ow, inn, _, s1, s2⟩ := o
  have hbi : i < bs.length := by omega
  have hbe : bs[i]? = some bs[i] := List.getElem?_eq_getElem hbi
  obtain ⟨h', ro, sr⟩ := stars_get inn (sinns_get hbe hx)
  have hm : (hdrs bs (pss.map (·.1)))[i]? = some (.slice bs[i].1 x.1.length bs[i].2) := by
    unfold hdrs
    rw [List.getElem?_zipWith, hbe, List.getElem?_map, hx]
    rfl
  have hlen : pss.length = m := by have := ow.1; rw [hdrs_len (by simpa using hb), Nat.mul_one, List.length_map] at this; exact this
  rcases ow.2 with ⟨_, h0, _⟩ | ⟨g, cur, rfl, hg, h3, h4, h5, h6⟩
  · omega
  · refine ⟨_, [.slice bs[i].1 x.1.length bs[i].2], rfl, ⟨bs[i].1, bs[i].2, rfl, row_le ro, row_rd ro (sr.trans (s2.trans s))⟩, fun j u hu => ?_⟩
    match j, hu with
    | 0, hu =>
      simp at hu
      subst hu
      rw [addr_add_add, add_lit, Nat.zero_add, show (i * (F.rep.sp).sz + 0) = i from by show i * 1 + 0 = i; omega]
      refine ⟨cur, e, (0, 0), s g _ (s1 g _ hg), rfl, ?_⟩
      rw [← h6, List.getElem?_take] at hm
      split at hm
      · simpa using hm
      · cases hm
theorem At.freezeSrows (f : Frt l (srows F ei e A m c pss) l')
    (k : ∀ R', RdS F.rep.sp R'.heap A pss → pss.length = m → m ≤ c → Sub R.heap R'.heap → (∀ l w, sat R' l w → sat R (srows F ei e A m c pss :: l) w) → At n ds R' env l' K) : At n ds R env l K := fun a w e0 hs => by
  obtain ⟨h1, o, dj, hs'⟩ := (hs.frt f).freeze
  exact k (R.add h1) (srows_rd o (uni_left _ _)) (srows_len o).1 (srows_len o).2 (uni_right dj) (fun l w h => h.thaw o dj) a w e0 hs'
/-- 'xs[:k]' of a row of the call's own, which stays as it is. -/
theorem Y.slOwn (f : Frt l (row F e A m c xs) l') {x y : Operand} {k : Int} {ki : IntKind} {ii : TI} (hi : ti P t = some ii) (hk : ii.k = .slice e) {j : TI} (hj : ti P e = some j) (hx : ev env x = some (.slice A m c)) (hy : ev env y = some (.int ki k)) (h0 : 0 ≤ k) (h1 : k ≤ (m : Int)) :
    Y P n ds R env l ⟨dd, .slice t x none (some y) none, ty, pos, af, g⟩ (.slice A (xs.take k.toNat).length c) := fun a w e0 hs => by
  obtain ⟨_, o, _⟩ := (hs.frt f).head
  have hm := row_len o
  subst hm
  exact Y.slTo rfl hi hk hj hx hy (row_le o) h0 h1 a w e0 hs
/-- 'xs[:k]' of what is read, as far as is known what lies there. -/
theorem Y.slFull (hz : zs.length ≤ c) {x y : Operand} {k : Int} {ki : IntKind} {ii : TI} (hi : ti P t = some ii) (hk : ii.k = .slice e) {j : TI} (hj : ti P e = some j) (hx : ev env x = some (.slice A m c)) (hy : ev env y = some (.int ki k)) (h0 : 0 ≤ k) (h1 : k ≤ (zs.length : Int)) :
    Y P n ds R env l ⟨dd, .slice t x none (some y) none, ty, pos, af, g⟩ (.slice A (zs.take k.toNat).length c) := fun a w e0 hs => by
  have hu := (ti_ok hi).slice hk
  have hu' : P.underlying t = some (.slice (P.elem t)) := by rw [hu]; simp [Program.elem, hu]
  have he : P.elem t = e := by rw [hu] at hu'; injection hu' with h; injection h with h; exact h.symm
  have hr := run_slice_h (P := P) (w := w) t A m c hu' ki k h0 (by omega)
  rw [he, (ti_ok hj).run_sizeOf] at hr
  have hl : (zs.take k.toNat).length = k.toNat := by simp; omega
  simp only [execOp, e0.ev hx, e0.ev hy, Option.map_none, Option.map_some, Sem.run_bind, run_sliceAt_slice w t _ _ _ _ hu', hr, Result.andThen, Sem.run_pure, sliced, Nat.zero_mul, Nat.sub_zero, hl]
  congr 3
  cases A <;> simp [Addr.add]
/-- An element that is itself a slice, with what lies behind it. -/
theorem RdS.rowAtS {H0 : PHeap} {m : Nat} (hr : RdS T.sp H0 A pss) (sb : Sub H0 R.heap) (hm : pss.length = m) {i : Int} (h0 : 0 ≤ i) (h1 : i < (m : Int)) : ∃ B cb, ((gt pss i).1 ++ (gt pss i).2).length ≤ cb ∧ RdS T H0 B ((gt pss i).1 ++ (gt pss i).2) ∧
    ∀ {x : Operand} {ii : TI} {dd : Option Nat} {env : List (Nat × Value)} {l : List HProp} (hi : ti P t = some ii) (hx : ev env x = some (elp A (i.toNat * 1))) (hs1 : ii.size = 1) (hag : agg ii.k = false),
      Y P n ds R env l ⟨dd, .load t x, ty, pos, af, g⟩ (.slice B (gt pss i).1.length cb) := by
  subst hm
  obtain ⟨ad, cs, rfl, ⟨B, cb, h2, h3, h4⟩, h5⟩ := hr.at_ h0 h1
  refine ⟨B, cb, h3, h4, fun {x ii dd env l} hi hx hs1 hag a w e0 hs => ?_⟩
  subst h2
  have := run_loadVar_cells (P := P) (w := w) (a := ad.add (i.toNat * 1)) (cs := [.slice B (gt pss i).1.length cb]) (v := .slice B (gt pss i).1.length cb) hi (by rw [hs1]; rfl) (fun j u hu => by
    exact h5.cell (sb.trans (sat_sub hs)) hu) (by unfold partOf; rw [hi]; simp [hag])
  simp only [execOp, e0.ev hx, elp, Instr.loadAt, Instr.sureAddr, Sem.run_bind, Sem.run_pure, Result.andThen, this]
/-- A row of the call's own goes into a row of rows, of which only the front is told. -/
theorem At.appendView (hg : grd os env g = some true) {x y : Operand} {B D : Option Addr} {k kk cb ct bytes : Nat} {ii j : TI} {l1 l2 : List HProp} (f : Frt l (srows F ei e A m c pss) l1) (f2 : Frt l1 (own e 1 D 1 ct [.slice B (zs.take k).length cb]) l2) (f3 : Frt l2 (row F ei B kk cb zs) l')
    (hi : ti P t = some ii) (hk : ii.k = .slice e) (hj : ti P e = some j) (hjs : j.size = 1) (hjb : j.bytes = bytes)
    (hx : ev env x = some (.slice A m c)) (hy : ev env y = some (.slice D 1 ct)) (hz : j.zero.length = j.size) (hb : (m + 1) * bytes ≤ 140737488355328) (hb0 : 0 < bytes) (hd : Nat.blt d n = true)
    (h : ∀ A' c', At n ds R ((d, .slice A' (pss ++ [(zs.take k, zs.drop k)]).length c') :: env) (srows F ei e A' (pss ++ [(zs.take k, zs.drop k)]).length c' (pss ++ [(zs.take k, zs.drop k)]) :: l') (wpList P os.toArray Q rest)) :
    At n ds R env l (wpList P os.toArray Q (⟨some d, .call ⟨.builtin .append, #[x, y], #[t, t]⟩, ty, pos, af, g⟩ :: rest)) := op_ex hg rfl hd fun a w e0 hs => by
  have h1 := hs.frt f
  obtain ⟨bs, hbl, h2⟩ := sat.srows.1 h1
  have hml : pss.length = m := let ⟨_, o, _⟩ := h1.head; (srows_len o).1
  have hf2 : sat R (own e 1 D 1 ct [.slice B (zs.take k).length cb] :: l2) w := (h1.drop).frt f2
  have hf3 : sat R (row F ei B kk cb zs :: l') w := hf2.drop.frt f3
  have hkl : zs.length = kk := let ⟨_, o, _⟩ := hf3.head; row_len o
  subst hkl hml
  obtain ⟨ht, oT, sT⟩ := hf2.head
  have hT : ∃ g0 cur, D = some ⟨g0, 0, none⟩ ∧ ht g0 = some (.cells cur e) ∧ cur.toList.take 1 = [.slice B (zs.take k).length cb] := by
    rcases oT.2 with ⟨_, h0, _⟩ | ⟨g0, cur, a1, a2, _, _, _, a6⟩
    · cases h0
    · exact ⟨g0, cur, a1, a2, by simpa using a6⟩
  obtain ⟨g0, cur, rfl, hg0, hcur⟩ := hT
  have hnews : ∀ j' u, [Value.slice B (zs.take k).length cb][j']? = some u → w.cell? ((⟨g0, 0, none⟩ : Addr).add j') = some u := fun j' u hu => by
    have hgw := sT g0 _ hg0
    simp only [wh] at hgw
    rw [add_lit, Nat.zero_add]
    rw [← hcur, List.getElem?_take] at hu
    split at hu
    · simpa [World.cell?, hgw] using hu
    · cases hu
  have h3 : sat R (own e 1 A pss.length c (hdrs bs (pss.map (·.1))) :: (sinns F ei bs pss ++ (row F ei B zs.length cb zs :: l'))) w := by
    obtain ⟨ok, hh, ⟨p1, p2, q1, q2, q3, q4, q5⟩, dR, ss⟩ := h2
    obtain ⟨r1, r2, u1, u2, u3, u4, u5⟩ := stars_append.1 q2
    have v1 := stars_frt f2 u2
    obtain ⟨_, z2, _, z4, _, _, z7⟩ := v1
    have v3 := stars_sub (stars_frt f3 z4) z7
    exact ⟨ok, hh, ⟨p1, p2, q1, stars_append.2 ⟨r1, r2, u1, v3, u3, u4, u5⟩, q3, q4, q5⟩, dR, ss⟩
  obtain ⟨ho, oo, so⟩ := h3.head
  obtain ⟨xi, z, hxi, hsz, hby, hze, hzc⟩ := (ti_ok hj).info
  have hm : pss.length + 1 ≤ maxLen := by
    have : pss.length + 1 ≤ (pss.length + 1) * bytes := Nat.le_mul_of_pos_right _ hb0
    simp only [maxLen]; omega
  obtain ⟨v', w', hr, ho', hgr, _, hob⟩ := run_append_own_at (P := P) w 0 t ty e xi z 1 bytes ((ti_ok hi).slice hk) hxi hze (by omega) (by omega) (by rw [hzc]; simp; omega) (by decide) (.slice A pss.length c) pss.length (hdrs bs (pss.map (·.1))) (own_world oo so) ⟨g0, 0, none⟩ 1 ct [.slice B (zs.take k).length cb] (by simp) hnews (by simp [Value.oneCell']) hm hb (Nat.zero_le _)
  obtain ⟨A', c', rfl, h4⟩ := h3.grown hgr (run_drawn _ hr) ho' (hob.imp id fun e => ⟨_, e, Nat.le_refl _⟩)
  refine ⟨.slice A' (pss.length + 1) c', w', Bw.srows F ei e A' (pss.length + 1) c' (pss ++ [(zs.take k, zs.drop k)]) :: l', ?_, ?_, by have := h A' c'; simpa using this⟩
  · simp only [execOp, resolve, invoke, builtin, Sem.run_bind, Sem.run_pure, Result.andThen_ok, List.map_toArray, List.map_cons, List.map_nil, e0.ev hx, e0.ev hy, hr]
  · refine sat.srows.2 ⟨bs ++ [(B, cb)], by simp [hbl], ?_⟩
    have e1 : hdrs (bs ++ [(B, cb)]) ((pss ++ [(zs.take k, zs.drop k)]).map (·.1)) = hdrs bs (pss.map (·.1)) ++ [.slice B (zs.take k).length cb] := by
      rw [List.map_append]
      exact hdrs_app (by simpa using hbl) (B, cb) (zs.take k)
    have e2 : sinns F ei (bs ++ [(B, cb)]) (pss ++ [(zs.take k, zs.drop k)]) = sinns F ei bs pss ++ [row F ei B zs.length cb zs] := by
      unfold sinns
      rw [List.zipWith_append hbl]
      simp
      rw [show min k zs.length + (zs.length - k) = zs.length from by omega]
    rw [e1, e2, List.append_assoc]
    exact h4
end
end Go.Bw
