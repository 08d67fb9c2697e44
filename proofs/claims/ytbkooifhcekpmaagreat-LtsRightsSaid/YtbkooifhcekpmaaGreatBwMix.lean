/- Rows of which the call owns some and reads others. Conditions: none. -/
import Derived.Test.YtbkooifhcekpmaaGreatBwHole
set_option linter.unusedVariables false
set_option linter.unusedSimpArgs false
set_option linter.unusedSectionVars false
namespace Go.Bw
open Go Go.RowKit

section
variable {α : Type}
/-- A row of the call's own, or one that the table H tells. -/
def mix (F : Fl α) (e : Nat) (H : PHeap) (A : Option Addr) (n c : Nat) (xs : List α) : HProp := fun h => row F e A n c xs h ∨ (xs.length = n ∧ n ≤ c ∧ RdS F.rep H A xs)
def mins (F : Fl α) (ei : Nat) (H : PHeap) (bs : List (Option Addr × Nat)) (xss : List (List α)) : List HProp := List.zipWith (fun b xs => mix F ei H b.1 xs.length b.2 xs) bs xss
def mrows (F : Fl α) (ei e : Nat) (H : PHeap) (A : Option Addr) (n c : Nat) (xss : List (List α)) : HProp := fun h =>
  ∃ bs : List (Option Addr × Nat), (fun h => bs.length = xss.length ∧ stars (own e 1 A n c (hdrs bs xss) :: mins F ei H bs xss) h) h
theorem mix_len {F : Fl α} {e : Nat} {H : PHeap} {A : Option Addr} {n c : Nat} {xs : List α} {h : PHeap} (o : mix F e H A n c xs h) : xs.length = n ∧ n ≤ c := by
  rcases o with o | ⟨h1, h2, _⟩
  · have := row_len o
    subst this
    exact ⟨rfl, row_le o⟩
  · exact ⟨h1, h2⟩
theorem mix_rd {F : Fl α} {e : Nat} {H H' : PHeap} {A : Option Addr} {n c : Nat} {xs : List α} {h : PHeap} (o : mix F e H A n c xs h) (s : Sub h H') (s' : Sub H H') : RdS F.rep H' A xs := by
  rcases o with o | ⟨h1, h2, r⟩
  · have := row_len o
    subst this
    exact row_rd o s
  · exact r.mono s'
theorem sat.mrows {R : Res} {F : Fl α} {ei e : Nat} {H : PHeap} {A : Option Addr} {n c : Nat} {xss : List (List α)} {l : List HProp} {w : World} :
    sat R (Bw.mrows F ei e H A n c xss :: l) w ↔ ∃ bs : List (Option Addr × Nat), bs.length = xss.length ∧ sat R (own e 1 A n c (hdrs bs xss) :: (mins F ei H bs xss ++ l)) w := by
  unfold Bw.mrows
  rw [sat.ex]
  constructor
  · rintro ⟨bs, h⟩
    have hb : bs.length = xss.length := let ⟨_, o, _⟩ := h.head; o.1
    exact ⟨bs, hb, sat.flat.1 (h.imp fun h o => o.2)⟩
  · rintro ⟨bs, hb, h⟩
    exact ⟨bs, (sat.flat.2 h).imp fun h o => ⟨hb, o⟩⟩
theorem mrows_len {F : Fl α} {ei e : Nat} {H : PHeap} {A : Option Addr} {n c : Nat} {xss : List (List α)} {h : PHeap} (o : mrows F ei e H A n c xss h) : xss.length = n ∧ n ≤ c := by
  obtain ⟨bs, hb, h1, _, o, _⟩ := o
  have := o.1
  rw [hdrs_len hb, Nat.mul_one] at this
  refine ⟨this, ?_⟩
  rcases o.2 with ⟨_, h0, h1⟩ | ⟨g, cur, _, _, h3, _⟩
  · omega
  · exact h3
theorem inns_mins {F : Fl α} {ei : Nat} {H : PHeap} : ∀ {bs : List (Option Addr × Nat)} {xss : List (List α)} {h : PHeap}, stars (inns F ei bs xss) h → stars (mins F ei H bs xss) h
  | [], _, _, _ => by simp [mins, stars]
  | _ :: _, [], _, _ => by simp [mins, stars]
  | b :: bs, x :: xss, h, s => by
    unfold inns at s
    rw [List.zipWith_cons_cons] at s
    obtain ⟨h1, h2, a, r, d⟩ := s
    unfold mins
    rw [List.zipWith_cons_cons]
    exact ⟨h1, h2, .inl a, inns_mins r, d⟩
theorem rows_mrows {F : Fl α} {ei e : Nat} {H : PHeap} {A : Option Addr} {n c : Nat} {xss : List (List α)} {h : PHeap} (o : rows F ei e A n c xss h) : mrows F ei e H A n c xss h := by
  obtain ⟨bs, hb, h1, h2, a, b, d⟩ := o
  exact ⟨bs, hb, h1, h2, a, inns_mins b, d⟩
theorem mins_get {F : Fl α} {ei : Nat} {H : PHeap} {bs : List (Option Addr × Nat)} {xss : List (List α)} {i : Nat} {b : Option Addr × Nat} {xs : List α} (hb : bs[i]? = some b) (hx : xss[i]? = some xs) : (mins F ei H bs xss)[i]? = some (mix F ei H b.1 xs.length b.2 xs) := by
  unfold mins
  rw [List.getElem?_zipWith, hb, hx]
theorem mins_set {F : Fl α} {ei : Nat} {H : PHeap} {b : Option Addr × Nat} {xs : List α} : ∀ {bs : List (Option Addr × Nat)} {xss : List (List α)} {i : Nat}, mins F ei H (bs.set i b) (xss.set i xs) = (mins F ei H bs xss).set i (mix F ei H b.1 xs.length b.2 xs)
  | [], _, _ => by simp [mins]
  | _ :: _, [], _ => by simp [mins]
  | a :: bs, x :: xss, 0 => by simp [mins]
  | a :: bs, x :: xss, i + 1 => by
    have := mins_set (F := F) (ei := ei) (H := H) (b := b) (xs := xs) (bs := bs) (xss := xss) (i := i)
    simpa [mins] using this
theorem mins_app {F : Fl α} {ei : Nat} {H : PHeap} {bs cs : List (Option Addr × Nat)} {xss yss : List (List α)} (h : bs.length = xss.length) : mins F ei H (bs ++ cs) (xss ++ yss) = mins F ei H bs xss ++ mins F ei H cs yss := by
  unfold mins
  rw [List.zipWith_append h]
theorem hdv_app {bs cs : List (Option Addr × Nat)} {xss yss : List (List α)} (h : bs.length = xss.length) : hdv (bs ++ cs) (xss ++ yss) = hdv bs xss ++ hdv cs yss := by
  unfold hdv
  rw [List.zipWith_append h]
/-- The headers of rows that are read. -/
theorem rd_hdrs {F : Fl α} {H : PHeap} {B : Option Addr} : ∀ {yss : List (List α)}, (∀ i x, yss[i]? = some x → ∃ B' c', x.length ≤ c' ∧ RdS F.rep H B' x ∧ ∃ ad, B = some ad ∧ RdA H (ad.add i) [.slice B' x.length c']) →
    ∃ bs : List (Option Addr × Nat), bs.length = yss.length ∧ ∀ i b x, bs[i]? = some b → yss[i]? = some x → x.length ≤ b.2 ∧ RdS F.rep H b.1 x ∧ ∃ ad, B = some ad ∧ RdA H (ad.add i) [.slice b.1 x.length b.2] := by
  intro yss h
  have hc : ∀ i : Fin yss.length, ∃ b : Option Addr × Nat, yss[i].length ≤ b.2 ∧ RdS F.rep H b.1 yss[i] ∧ ∃ ad, B = some ad ∧ RdA H (ad.add i) [.slice b.1 yss[i].length b.2] := fun i => by
    obtain ⟨B', c', h1, h2, h3⟩ := h i yss[i] (by simp)
    exact ⟨(B', c'), h1, h2, h3⟩
  obtain ⟨f, hf⟩ := Classical.axiomOfChoice hc
  refine ⟨List.ofFn f, by simp, fun i b x hb hx => ?_⟩
  have hi : i < yss.length := (List.getElem?_eq_some_iff.1 hx).1
  rw [List.getElem?_ofFn, dif_pos hi] at hb
  obtain rfl := Option.some.inj hb
  have hx' : yss[i] = x := by rw [List.getElem?_eq_getElem hi] at hx; exact Option.some.inj hx
  have := hf ⟨i, hi⟩
  simp only [Fin.getElem_fin] at this
  rwa [hx'] at this
theorem rd_heads {F : Fl α} {ei : Nat} {H : PHeap} {B : Option Addr} {yss : List (List α)} (hr : RdS F.rep.slice H B yss) :
    ∃ bs : List (Option Addr × Nat), bs.length = yss.length ∧ RdS Fl.val.rep H B (hdv bs yss) ∧ ∀ h, stars (mins F ei H bs yss) h := by
  obtain ⟨bs, hb, hall⟩ := rd_hdrs (F := F) (H := H) (B := B) (yss := yss) (fun i x hx => by
    obtain ⟨ad, cs, hA, ⟨B', c', rfl, h1, h2⟩, h3⟩ := hr i x hx
    refine ⟨B', c', h1, h2, ad, hA, ?_⟩
    rwa [show i * (F.rep.slice).sz = i from Nat.mul_one i] at h3)
  refine ⟨bs, hb, fun i x hx => ?_, fun h => ?_⟩
  · have hi : i < (hdv bs yss).length := (List.getElem?_eq_some_iff.1 hx).1
    rw [hdv_len hb] at hi
    have hbi : bs[i]? = some bs[i] := List.getElem?_eq_getElem (by omega)
    have hyi : yss[i]? = some yss[i] := List.getElem?_eq_getElem hi
    obtain ⟨h1, h2, ad, hA, h3⟩ := hall i _ _ hbi hyi
    unfold hdv at hx
    rw [List.getElem?_zipWith, hbi, hyi] at hx
    obtain rfl := Option.some.inj hx
    refine ⟨ad, _, hA, rfl, ?_⟩
    rw [show i * (Fl.val.rep).sz = i from Nat.mul_one i]
    exact h3
  · clear hr
    have key : ∀ (bs : List (Option Addr × Nat)) (yss : List (List α)), (∀ (i : Nat) (b : Option Addr × Nat) (x : List α), bs[i]? = some b → yss[i]? = some x → x.length ≤ b.2 ∧ RdS F.rep H b.1 x) → stars (mins F ei H bs yss) h := by
      intro bs
      induction bs with
      | nil => intro yss _; simp [mins, stars]
      | cons b bs ih =>
        intro yss hall
        cases yss with
        | nil => simp [mins, stars]
        | cons y yss =>
          unfold mins
          rw [List.zipWith_cons_cons]
          obtain ⟨h1, h2⟩ := hall 0 b y rfl rfl
          exact stars_add (.inr ⟨rfl, h1, h2⟩) (ih yss fun i b x hb hx => hall (i + 1) b x (by simpa using hb) (by simpa using hx))
    exact key bs yss fun i b x hb hx => let ⟨a, b, _⟩ := hall i b x hb hx; ⟨a, b⟩
end
section
variable {P : Program} [Tys P] {os : List Oper} {Q : Exit → Act → World → Prop} {rest : List Oper} {n : Nat} {ds : List Deferred} {R : Res} {env : List (Nat × Value)} {l l' : List HProp}
variable {d ty : Nat} {pos : String} {af : Array Edge} {g : Option (Nat × Bool)} {α : Type} {F : Fl α} {e ei t : Nat} {H : PHeap} {A : Option Addr} {c m : Nat} {xss yss : List (List α)} {xs ys : List α} {K : Act → World → Prop} {dd : Option Nat}
theorem At.toMix (H : PHeap) (f : Frt l (row F e A m c xs) l') (h : At n ds R env (mix F e H A m c xs :: l') K) : At n ds R env l K := fun a w e0 hs => h a w e0 ((hs.frt f).imp fun _ o => .inl o)
theorem At.mixRd (F : Fl α) (e : Nat) (hr : RdS F.rep H A xs) (hn : xs.length = m) (hc : m ≤ c) (h : At n ds R env (mix F e H A m c xs :: l) K) : At n ds R env l K := fun a w e0 hs => h a w e0 (by
  obtain ⟨ok, k, s, d⟩ := hs
  exact ⟨ok, k, stars_add (.inr ⟨hn, hc, hr⟩) s, d⟩)
theorem At.mixLen (f : Frt l (mix F e H A m c xs) l') (h : xs.length = m → m ≤ c → At n ds R env l K) : At n ds R env l K := fun a w e0 hs =>
  let ⟨_, o, _⟩ := (hs.frt f).head
  h (mix_len o).1 (mix_len o).2 a w e0 hs
theorem At.freezeMix (sb : Sub H R.heap) (f : Frt l (mix F e H A m c xs) l')
    (k : ∀ R', RdS F.rep R'.heap A xs → xs.length = m → m ≤ c → Sub R.heap R'.heap → (∀ l w, sat R' l w → sat R (mix F e H A m c xs :: l) w) → At n ds R' env l' K) : At n ds R env l K := fun a w e0 hs => by
  obtain ⟨h1, o, dj, hs'⟩ := (hs.frt f).freeze
  exact k (R.add h1) (mix_rd o (uni_left _ _) (sb.trans (uni_right dj))) (mix_len o).1 (mix_len o).2 (uni_right dj) (fun l w h => h.thaw o dj) a w e0 hs'
theorem At.toMrows (H : PHeap) (f : Frt l (rows F ei e A m c xss) l') (h : At n ds R env (mrows F ei e H A m c xss :: l') K) : At n ds R env l K := fun a w e0 hs => h a w e0 ((hs.frt f).imp fun _ o => rows_mrows o)
theorem At.mrowsLen (f : Frt l (mrows F ei e H A m c xss) l') (h : xss.length = m → m ≤ c → At n ds R env l K) : At n ds R env l K := fun a w e0 hs =>
  let ⟨_, o, _⟩ := (hs.frt f).head
  h (mrows_len o).1 (mrows_len o).2 a w e0 hs
theorem mrows_rd {h H' : PHeap} (o : mrows F ei e H A m c xss h) (s : Sub h H') (s' : Sub H H') : RdS F.rep.slice H' A xss := fun i x hx => by
  have hi : i < xss.length := (List.getElem?_eq_some_iff.1 hx).1
  obtain ⟨bs, hb, h1, h2, ow, inn, _, s1, s2⟩ := o
  have hbi : i < bs.length := by omega
  have hbe : bs[i]? = some bs[i] := List.getElem?_eq_getElem hbi
  obtain ⟨h', ro, sr⟩ := stars_get inn (mins_get hbe hx)
  have hm : (hdrs bs xss)[i]? = some (.slice bs[i].1 x.length bs[i].2) := by
    unfold hdrs
    rw [List.getElem?_zipWith, hbe, hx]
  have hlen : xss.length = m := by have := ow.1; rw [hdrs_len hb, Nat.mul_one] at this; exact this
  rcases ow.2 with ⟨_, h0, _⟩ | ⟨g, cur, rfl, hg, h3, h4, h5, h6⟩
  · omega
  · refine ⟨_, [.slice bs[i].1 x.length bs[i].2], rfl, ⟨bs[i].1, bs[i].2, rfl, (mix_len ro).2, mix_rd ro (sr.trans (s2.trans s)) s'⟩, fun j u hu => ?_⟩
    match j, hu with
    | 0, hu =>
      simp at hu
      subst hu
      rw [addr_add_add, add_lit, Nat.zero_add, show (i * (F.rep.slice).sz + 0) = i from by show i * 1 + 0 = i; omega]
      refine ⟨cur, e, (0, 0), s g _ (s1 g _ hg), rfl, ?_⟩
      rw [← h6, List.getElem?_take] at hm
      split at hm
      · simpa using hm
      · cases hm
theorem At.freezeMrows (sb : Sub H R.heap) (f : Frt l (mrows F ei e H A m c xss) l')
    (k : ∀ R', RdS F.rep.slice R'.heap A xss → xss.length = m → m ≤ c → Sub R.heap R'.heap → (∀ l w, sat R' l w → sat R (mrows F ei e H A m c xss :: l) w) → At n ds R' env l' K) : At n ds R env l K := fun a w e0 hs => by
  obtain ⟨h1, o, dj, hs'⟩ := (hs.frt f).freeze
  exact k (R.add h1) (mrows_rd o (uni_left _ _) (sb.trans (uni_right dj))) (mrows_len o).1 (mrows_len o).2 (uni_right dj) (fun l w h => h.thaw o dj) a w e0 hs'
theorem Y.ixM (f : Frt l (mrows F ei e H A m c xss) l') {x y : Operand} {i : Int} {k : IntKind} {ii j : TI} (hi : ti P t = some ii) (hk : ii.k = .slice e) (hx : ev env x = some (.slice A m c)) (hy : ev env y = some (.int k i)) (hj : ti P e = some j) (hjs : j.size = 1) (h0 : 0 ≤ i) (h1 : i < (m : Int)) :
    Y P n ds R env l ⟨dd, .indexAddr t x y, ty, pos, af, g⟩ (elp A (i.toNat * 1)) := fun a w e0 hs => by
  obtain ⟨bs, hb, h2⟩ := sat.mrows.1 (hs.frt f)
  have hm : xss.length = m := let ⟨_, o, _⟩ := (hs.frt f).head; (mrows_len o).1
  rw [own_hdv] at h2
  subst hm
  rw [← hdv_len hb] at h2 hx h1
  exact Y.ixOwn (F := Fl.val) .z hi hk hx hy hj hjs h0 h1 a w e0 h2
/-- A row is written over by another one. -/
theorem At.stMix (hg : grd os env g = some true) {B' : Option Addr} {k' cb' : Nat} {i : Int} {l1 : List HProp} (f : Frt l (mrows F ei e H A m c xss) l1) (f2 : Frt l1 (mix F ei H B' k' cb' ys) l') {x y : Operand} {ii : TI} (hi : ti P t = some ii) (hx : ev env x = some (elp A (i.toNat * 1))) (hy : ev env y = some (.slice B' k' cb'))
    (hz : ii.size = 1) (h0 : 0 ≤ i) (h1 : i < (m : Int)) (h : At n ds R env (mrows F ei e H A m c (Bw.st xss i ys) :: l') (wpList P os.toArray Q rest)) :
    At n ds R env l (wpList P os.toArray Q (⟨none, .store t x y, ty, pos, af, g⟩ :: rest)) := fun a w e0 hs => by
  have hs1 := hs.frt f
  have hk : ys.length = k' := let ⟨_, o, _⟩ := (hs1.drop.frt f2).head; (mix_len o).1
  subst hk
  obtain ⟨bs, hb, h2⟩ := sat.mrows.1 hs1
  have hm : xss.length = m := let ⟨_, o, _⟩ := hs1.head; (mrows_len o).1
  subst hm
  have hlt : i.toNat < bs.length := by omega
  have hbi : bs[i.toNat]? = some bs[i.toNat] := List.getElem?_eq_getElem hlt
  have hxi : xss[i.toNat]? = some xss[i.toNat] := List.getElem?_eq_getElem (by omega)
  have fr : Frt (own e 1 A xss.length c (hdrs bs xss) :: (mins F ei H bs xss ++ l1)) (mix F ei H B' ys.length cb' ys) (own e 1 A xss.length c (hdrs bs xss) :: (mins F ei H bs xss ++ l')) := .s (frt_app f2)
  have fr2 : Frt (mix F ei H B' ys.length cb' ys :: own e 1 A xss.length c (hdrs bs xss) :: (mins F ei H bs xss ++ l')) _ (mix F ei H B' ys.length cb' ys :: own e 1 A xss.length c (hdrs bs xss) :: ((mins F ei H bs xss).eraseIdx i.toNat ++ l')) := .s (.s (frt_erase (mins_get hbi hxi)))
  have h3 := ((h2.frt fr).frt fr2).drop
  rw [own_hdv, ← hdv_len hb] at h3
  refine At.stOwn (F := Fl.val) (q := 0) (z := ⟨.slice B' ys.length cb', rfl⟩) (.s .z) hg hi hx hy h0 (by rw [hdv_len hb]; exact h1) rfl (by rw [hz]; rfl) (.c .n) ?_ a w e0 h3
  intro a w e0 hs4
  refine h a w e0 (sat.mrows.2 ⟨bs.set i.toNat (B', cb'), by simp [Bw.st, hb], ?_⟩)
  have hst : Bw.st (hdv bs xss) i ⟨.slice B' ys.length cb', rfl⟩ = hdv (bs.set i.toNat (B', cb')) (Bw.st xss i ys) := by
    unfold Bw.st
    exact (hdv_set (b := (B', cb')) (xs := ys)).symm
  rw [hst, ← own_hdv, hdv_len hb] at hs4
  have hin : mins F ei H (bs.set i.toNat (B', cb')) (Bw.st xss i ys) = (mins F ei H bs xss).set i.toNat (mix F ei H B' ys.length cb' ys) := mins_set (b := (B', cb'))
  rw [hin]
  have hil : (mins F ei H bs xss).length = xss.length := by simp [mins, hb]
  have fr3 : Frt ((mins F ei H bs xss).set i.toNat (mix F ei H B' ys.length cb' ys) ++ l') (mix F ei H B' ys.length cb' ys) ((mins F ei H bs xss).eraseIdx i.toNat ++ l') := by
    have h5 := frt_erase (l := l') (L := (mins F ei H bs xss).set i.toNat (mix F ei H B' ys.length cb' ys)) (i := i.toNat) (c := mix F ei H B' ys.length cb' ys) (by
      rw [List.getElem?_set, if_pos rfl, if_pos (by rw [hil]; omega)])
    rwa [erase_set] at h5
  have fr4 : Frt (own e 1 A xss.length c (hdrs (bs.set i.toNat (B', cb')) (Bw.st xss i ys)) :: ((mins F ei H bs xss).set i.toNat (mix F ei H B' ys.length cb' ys) ++ l')) (mix F ei H B' ys.length cb' ys) (own e 1 A xss.length c (hdrs (bs.set i.toNat (B', cb')) (Bw.st xss i ys)) :: ((mins F ei H bs xss).eraseIdx i.toNat ++ l')) := .s fr3
  exact (hs4.frt (.s .z)).back fr4
/-- .. and where all of them are the call's own. -/
theorem At.stRows (hg : grd os env g = some true) {B' : Option Addr} {k' cb' : Nat} {i : Int} {l1 : List HProp} (f : Frt l (rows F ei e A m c xss) l1) (f2 : Frt l1 (row F ei B' k' cb' ys) l') {x y : Operand} {ii : TI} (hi : ti P t = some ii) (hx : ev env x = some (elp A (i.toNat * 1))) (hy : ev env y = some (.slice B' k' cb'))
    (hz : ii.size = 1) (h0 : 0 ≤ i) (h1 : i < (m : Int)) (h : At n ds R env (rows F ei e A m c (Bw.st xss i ys) :: l') (wpList P os.toArray Q rest)) :
    At n ds R env l (wpList P os.toArray Q (⟨none, .store t x y, ty, pos, af, g⟩ :: rest)) := fun a w e0 hs => by
  have hs1 := hs.frt f
  have hk : ys.length = k' := let ⟨_, o, _⟩ := (hs1.drop.frt f2).head; row_len o
  subst hk
  obtain ⟨bs, hb, h2⟩ := sat.rows.1 hs1
  have hm : xss.length = m := let ⟨_, o, _⟩ := hs1.head; (rows_len o).1
  subst hm
  have hlt : i.toNat < bs.length := by omega
  have hbi : bs[i.toNat]? = some bs[i.toNat] := List.getElem?_eq_getElem hlt
  have hxi : xss[i.toNat]? = some xss[i.toNat] := List.getElem?_eq_getElem (by omega)
  have fr : Frt (own e 1 A xss.length c (hdrs bs xss) :: (inns F ei bs xss ++ l1)) (row F ei B' ys.length cb' ys) (own e 1 A xss.length c (hdrs bs xss) :: (inns F ei bs xss ++ l')) := .s (frt_app f2)
  have fr2 : Frt (row F ei B' ys.length cb' ys :: own e 1 A xss.length c (hdrs bs xss) :: (inns F ei bs xss ++ l')) _ (row F ei B' ys.length cb' ys :: own e 1 A xss.length c (hdrs bs xss) :: ((inns F ei bs xss).eraseIdx i.toNat ++ l')) := .s (.s (frt_erase (inns_get hbi hxi)))
  have h3 := ((h2.frt fr).frt fr2).drop
  rw [own_hdv, ← hdv_len hb] at h3
  refine At.stOwn (F := Fl.val) (q := 0) (z := ⟨.slice B' ys.length cb', rfl⟩) (.s .z) hg hi hx hy h0 (by rw [hdv_len hb]; exact h1) rfl (by rw [hz]; rfl) (.c .n) ?_ a w e0 h3
  intro a w e0 hs4
  refine h a w e0 (sat.rows.2 ⟨bs.set i.toNat (B', cb'), by simp [Bw.st, hb], ?_⟩)
  have hst : Bw.st (hdv bs xss) i ⟨.slice B' ys.length cb', rfl⟩ = hdv (bs.set i.toNat (B', cb')) (Bw.st xss i ys) := by
    unfold Bw.st
    exact (hdv_set (b := (B', cb')) (xs := ys)).symm
  rw [hst, ← own_hdv, hdv_len hb] at hs4
  have hin : inns F ei (bs.set i.toNat (B', cb')) (Bw.st xss i ys) = (inns F ei bs xss).set i.toNat (row F ei B' ys.length cb' ys) := inns_set (b := (B', cb'))
  rw [hin]
  have hil : (inns F ei bs xss).length = xss.length := by simp [inns, hb]
  have fr3 : Frt ((inns F ei bs xss).set i.toNat (row F ei B' ys.length cb' ys) ++ l') (row F ei B' ys.length cb' ys) ((inns F ei bs xss).eraseIdx i.toNat ++ l') := by
    have h5 := frt_erase (l := l') (L := (inns F ei bs xss).set i.toNat (row F ei B' ys.length cb' ys)) (i := i.toNat) (c := row F ei B' ys.length cb' ys) (by
      rw [List.getElem?_set, if_pos rfl, if_pos (by rw [hil]; omega)])
    rwa [erase_set] at h5
  have fr4 : Frt (own e 1 A xss.length c (hdrs (bs.set i.toNat (B', cb')) (Bw.st xss i ys)) :: ((inns F ei bs xss).set i.toNat (row F ei B' ys.length cb' ys) ++ l')) (row F ei B' ys.length cb' ys) (own e 1 A xss.length c (hdrs (bs.set i.toNat (B', cb')) (Bw.st xss i ys)) :: ((inns F ei bs xss).eraseIdx i.toNat ++ l')) := .s fr3
  exact (hs4.frt (.s .z)).back fr4
theorem stars_pure {M l : List HProp} (hM : ∀ h, stars M h) {h : PHeap} (s : stars l h) : stars (M ++ l) h :=
  stars_append.2 ⟨fun _ => none, h, hM _, s, (fun _ _ _ e => by cases e), (fun _ _ e => by cases e), Sub.refl _⟩
theorem sat.mid {R : Res} {c : HProp} {M1 M2 l : List HProp} {w : World} (hM : ∀ h, stars M2 h) (hs : sat R (c :: (M1 ++ l)) w) : sat R (c :: (M1 ++ M2 ++ l)) w := by
  obtain ⟨ok, k, ⟨p1, p2, q1, q2, q3, q4, q5⟩, dR, ss⟩ := hs
  obtain ⟨r1, r2, u1, u2, u3, u4, u5⟩ := stars_append.1 q2
  refine ⟨ok, k, ⟨p1, p2, q1, ?_, q3, q4, q5⟩, dR, ss⟩
  rw [List.append_assoc]
  exact stars_append.2 ⟨r1, r2, u1, stars_pure hM u2, u3, u4, u5⟩
/-- Rows that are read alone are appended, all of them. -/
theorem At.appendRows (hg : grd os env g = some true) {x y : Operand} {B : Option Addr} {k cb bytes : Nat} {ii j : TI} (f : Frt l (mrows F ei e H A m c xss) l') (sb : Sub H R.heap) (hr : RdS F.rep.slice H B yss) (hk2 : yss.length = k) (hi : ti P t = some ii) (hk : ii.k = .slice e) (hj : ti P e = some j) (hjs : j.size = 1) (hjb : j.bytes = bytes)
    (hx : ev env x = some (.slice A m c)) (hy : ev env y = some (.slice B k cb))
    (hz : j.zero.length = j.size) (hb : (m + k) * bytes ≤ 140737488355328) (hb0 : 0 < bytes) (hd : Nat.blt d n = true)
    (h : ∀ A' c', At n ds R ((d, .slice A' (xss ++ yss).length c') :: env) (mrows F ei e H A' (xss ++ yss).length c' (xss ++ yss) :: l') (wpList P os.toArray Q rest)) :
    At n ds R env l (wpList P os.toArray Q (⟨some d, .call ⟨.builtin .append, #[x, y], #[t, t]⟩, ty, pos, af, g⟩ :: rest)) := fun a w e0 hs => by
  have hs1 := hs.frt f
  obtain ⟨bs, hbl, h2⟩ := sat.mrows.1 hs1
  have hm : xss.length = m := let ⟨_, o, _⟩ := hs1.head; (mrows_len o).1
  subst hm
  subst hk2
  obtain ⟨cs, hcl, hrd, hst⟩ := rd_heads (ei := ei) hr
  rw [own_hdv, ← hdv_len hbl] at h2
  rw [← hdv_len hbl] at hx hb
  refine At.appendAll hg (F := Fl.val) (xs := hdv bs xss) (ys := hdv cs yss) .z (SrcE.rd (hrd.mono sb)) (hdv_len hcl) hi hk hj hjs hjb hx hy hz hb hb0 hd ?_ a w e0 h2
  intro A' c' a w e0 hs3
  rw [← hdv_app hbl, hdv_len (by simp [hbl, hcl]), ← own_hdv] at hs3
  rw [← hdv_app hbl, hdv_len (by simp [hbl, hcl])] at e0
  refine h A' c' a w e0 (sat.mrows.2 ⟨bs ++ cs, by simp [hbl, hcl], ?_⟩)
  rw [mins_app hbl]
  exact sat.mid hst hs3
/-- Rows, all of them nil. -/
theorem At.makeRows (F : Fl α) (ei : Nat) {x y : Operand} {q : Int} {k k' : IntKind} {bytes : Nat} {ii j : TI} (hg : grd os env g = some true) (hi : ti P t = some ii) (hk : ii.k = .slice e) (hj : ti P e = some j) (hjs : j.size = 1) (hjb : j.bytes = bytes) (hz : j.zero = [.slice none 0 0])
    (hx : ev env x = some (.int k q)) (hy : ev env y = some (.int k' q)) (h0 : 0 ≤ q) (h1 : (bytes : Int) * q ≤ 281474976710656) (hb0 : 0 < bytes) (hd : Nat.blt d n = true)
    (h : ∀ A c, At n ds R ((d, .slice A (List.replicate q.toNat ([] : List α)).length c) :: env) (rows F ei e A (List.replicate q.toNat ([] : List α)).length c (List.replicate q.toNat []) :: l) (wpList P os.toArray Q rest)) :
    At n ds R env l (wpList P os.toArray Q (⟨some d, .makeSlice t x y, ty, pos, af, g⟩ :: rest)) := by
  refine At.make (F := Fl.val) (z := ⟨.slice none 0 0, rfl⟩) hg hi hk hj hjs rfl hjb hz hx hy h0 h1 hb0 hd fun A c => ?_
  intro a w e0 hs
  rw [List.length_replicate] at e0 hs
  have := h A c
  rw [List.length_replicate] at this
  refine this a w e0 (sat.rows.2 ⟨List.replicate q.toNat (none, 0), by simp, ?_⟩)
  have e1 : hdrs (List.replicate q.toNat (none, 0)) (List.replicate q.toNat ([] : List α)) = List.replicate q.toNat (.slice none 0 0) := by
    unfold hdrs
    rw [List.zipWith_replicate]
    simp
  have e2 : inns F ei (List.replicate q.toNat (none, 0)) (List.replicate q.toNat ([] : List α)) = List.replicate q.toNat (row F ei none 0 0 []) := by
    unfold inns
    rw [List.zipWith_replicate]
    simp
  rw [e1, e2]
  have hpure : ∀ k : Nat, ∀ h, stars (List.replicate k (row F ei none 0 0 ([] : List α))) h := by
    intro k
    induction k with
    | zero => intro h; simp [stars]
    | succ k ih => intro h; rw [List.replicate_succ]; exact stars_add ⟨by simp, .inl ⟨rfl, by simp, rfl⟩⟩ (ih h)
  have h5 : row Fl.val e A q.toNat c (List.replicate q.toNat ⟨.slice none 0 0, rfl⟩) = own e 1 A q.toNat c (List.replicate q.toNat (.slice none 0 0)) := by
    unfold row
    rw [flat_val, List.map_replicate]
    rfl
  rw [h5] at hs
  have := sat.mid (M1 := []) (hpure q.toNat) hs
  simpa using this
end
end Go.Bw
