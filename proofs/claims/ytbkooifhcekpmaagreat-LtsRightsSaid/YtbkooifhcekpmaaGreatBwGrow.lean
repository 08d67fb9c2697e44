/- Rows of structs that hold slices; pointers that may be nil. Conditions: none. -/
import Derived.Test.YtbkooifhcekpmaaGreatBwOwn
set_option linter.unusedVariables false
set_option linter.unusedSimpArgs false
set_option linter.unusedSectionVars false
namespace Go.Bw
open Go Go.RowKit

/-- A value's bare cells. -/
def Raw (k : Nat) : Type := { cs : List Value // cs.length = k ∧ ∀ u ∈ cs, u.oneCell' = true }
instance {k : Nat} : Inhabited (Raw k) := ⟨⟨List.replicate k .nilFunc, by simp, fun u hu => by rw [(List.mem_replicate.1 hu).2]; rfl⟩⟩
def Fl.raw (k : Nat) (hk : 0 < k) : Fl (Raw k) := ⟨k, fun x => x.1, fun x => x.2.1, fun x => x.2.2, hk⟩
def rawOf (k : Nat) (cs : List Value) (h1 : cs.length = k) (h2 : cs.all (·.oneCell') = true) : Raw k := ⟨cs, h1, fun u hu => List.all_eq_true.1 h2 u hu⟩
section
variable {α : Type}
def gins (T : Ow α) (xs : List α) (css : List (Raw T.sz)) : List HProp := List.zipWith (fun x cs => T.own x cs.1) xs css
/-- Rows of such, all of which the call owns. -/
def grow (T : Ow α) (e : Nat) (A : Option Addr) (n c : Nat) (xs : List α) : HProp := fun h =>
  ∃ css : List (Raw T.sz), (fun h => css.length = xs.length ∧ stars (row (Fl.raw T.sz T.pos) e A n c css :: gins T xs css) h) h
theorem sat.grow {R : Res} {T : Ow α} {e : Nat} {A : Option Addr} {n c : Nat} {xs : List α} {l : List HProp} {w : World} :
    sat R (Bw.grow T e A n c xs :: l) w ↔ ∃ css : List (Raw T.sz), css.length = xs.length ∧ sat R (row (Fl.raw T.sz T.pos) e A n c css :: (gins T xs css ++ l)) w := by
  unfold Bw.grow
  rw [sat.ex]
  constructor
  · rintro ⟨bs, h⟩
    have hb : bs.length = xs.length := let ⟨_, o, _⟩ := h.head; o.1
    exact ⟨bs, hb, sat.flat.1 (h.imp fun h o => o.2)⟩
  · rintro ⟨bs, hb, h⟩
    exact ⟨bs, (sat.flat.2 h).imp fun h o => ⟨hb, o⟩⟩
theorem grow_len {T : Ow α} {e : Nat} {A : Option Addr} {n c : Nat} {xs : List α} {h : PHeap} (o : grow T e A n c xs h) : xs.length = n ∧ n ≤ c := by
  obtain ⟨css, hb, h1, _, o, _⟩ := o
  have := row_len o
  refine ⟨by omega, ?_⟩
  rw [← this] at o ⊢
  exact row_le o
theorem stars_tail {M X Y : List HProp} (i : ∀ h, stars X h → stars Y h) {h : PHeap} (s : stars (M ++ X) h) : stars (M ++ Y) h := by
  obtain ⟨h1, h2, s1, s2, d, t1, t2⟩ := stars_append.1 s
  exact stars_append.2 ⟨h1, h2, s1, i _ s2, d, t1, t2⟩
theorem sat.tail {R : Res} {M X Y : List HProp} {w : World} (i : ∀ h, stars X h → stars Y h) (hs : sat R (M ++ X) w) : sat R (M ++ Y) w :=
  let ⟨ok, h, s, d⟩ := hs
  ⟨ok, h, stars_tail i s, d⟩
theorem ent_stars {L l : List HProp} {c : HProp} (e : Ent L c) {h : PHeap} (s : stars (L ++ l) h) : stars (c :: l) h := by
  obtain ⟨h1, h2, s1, s2, d, t1, t2⟩ := stars_append.1 s
  exact ⟨h1, h2, e _ s1, s2, d, t1, t2⟩
theorem stars_drop {c : HProp} {l : List HProp} {h : PHeap} (s : stars (c :: l) h) : stars l h := let ⟨_, _, _, b, _, _, s2⟩ := s; stars_sub b s2
theorem gins_get {T : Ow α} {xs : List α} {css : List (Raw T.sz)} {i : Nat} {x : α} {cs : Raw T.sz} (hx : xs[i]? = some x) (hc : css[i]? = some cs) : (gins T xs css)[i]? = some (T.own x cs.1) := by
  unfold gins
  rw [List.getElem?_zipWith, hx, hc]
def optp (p : Option Nat) : Value := .pointer (p.map fun b => ⟨b, 0, none⟩)
def opti (t : Nat) (p : Option Nat) : Value := match p with | none => .nilIface | some b => .iface t (.pointer (some ⟨b, 0, none⟩))
/-- A block of the call's own that there may be. -/
def optb (T : Ow α) (t : Nat) (p : Option Nat) (o : Option α) : HProp := fun h => match p, o with
  | some b, some x => ∃ cs, stars [pt b (.cells cs.toArray t), T.own x cs] h
  | none, none => True
  | _, _ => False
theorem optb_none {T : Ow α} {t : Nat} {p : Option Nat} {o : Option α} {h : PHeap} (k : optb T t p o h) : p.isNone = o.isNone := by
  cases p <;> cases o <;> first | rfl | exact k.elim
end
section
variable {P : Program} [Tys P] {os : List Oper} {Q : Exit → Act → World → Prop} {rest : List Oper} {n : Nat} {ds : List Deferred} {R : Res} {env : List (Nat × Value)} {l l' : List HProp}
variable {d ty : Nat} {pos : String} {af : Array Edge} {g : Option (Nat × Bool)} {α : Type} {T : Ow α} {e t : Nat} {A : Option Addr} {c m : Nat} {xs : List α} {K : Act → World → Prop} {dd : Option Nat}
theorem At.nilGrow (T : Ow α) (e : Nat) (h : At n ds R env (grow T e none 0 0 [] :: l) K) : At n ds R env l K := fun a w e0 hs => h a w e0 (by
  obtain ⟨ok, k, s, d⟩ := hs
  exact ⟨ok, k, stars_add ⟨[], rfl, stars_add ⟨by simp, .inl ⟨rfl, by simp, rfl⟩⟩ trivial⟩ s, d⟩)
theorem At.growLen (f : Frt l (grow T e A m c xs) l') (h : xs.length = m → m ≤ c → At n ds R env l K) : At n ds R env l K := fun a w e0 hs =>
  let ⟨_, o, _⟩ := (hs.frt f).head
  h (grow_len o).1 (grow_len o).2 a w e0 hs
/-- One more. -/
theorem At.appendGrow (hg : grd os env g = some true) {x y : Operand} {D : Option Addr} {ct bytes : Nat} {cs : Raw T.sz} {L : List HProp} {z : α} {ii j : TI} {M : List HProp} (hl : l = grow T e A m c xs :: row (Fl.raw T.sz T.pos) e D 1 ct [cs] :: M) (ent : Ent L (T.own z cs.1)) (hM : M = L ++ l') (hi : ti P t = some ii) (hk : ii.k = .slice e) (hj : ti P e = some j) (hjs : j.size = T.sz) (hjb : j.bytes = bytes)
    (hx : ev env x = some (.slice A m c)) (hy : ev env y = some (.slice D 1 ct)) (hz : j.zero.length = j.size) (hb : (m + 1) * bytes ≤ 140737488355328) (hb0 : 0 < bytes) (hd : Nat.blt d n = true)
    (h : ∀ A' c', At n ds R ((d, .slice A' (xs ++ [z]).length c') :: env) (grow T e A' (xs ++ [z]).length c' (xs ++ [z]) :: l') (wpList P os.toArray Q rest)) :
    At n ds R env l (wpList P os.toArray Q (⟨some d, .call ⟨.builtin .append, #[x, y], #[t, t]⟩, ty, pos, af, g⟩ :: rest)) := fun a w e0 hs => by
  subst hl hM
  obtain ⟨css, hbl, h2⟩ := sat.grow.1 hs
  have fr : Frt (row (Fl.raw T.sz T.pos) e A m c css :: (gins T xs css ++ row (Fl.raw T.sz T.pos) e D 1 ct [cs] :: (L ++ l'))) (row (Fl.raw T.sz T.pos) e D [cs].length ct [cs]) (row (Fl.raw T.sz T.pos) e A m c css :: (gins T xs css ++ (L ++ l'))) := .s (frt_app .z)
  refine At.append (F := Fl.raw T.sz T.pos) (xs := css) (ys := [cs]) hg .z (Src.own fr (by simp)) hi hk hj hjs hjb hx hy hz hb hb0 hd ?_ a w e0 h2
  intro A' c' a w e0 hs3
  have hl : (css ++ [cs]).length = (xs ++ [z]).length := by simp [hbl]
  rw [hl] at e0 hs3
  refine h A' c' a w e0 (sat.grow.2 ⟨css ++ [cs], hl, ?_⟩)
  have hg2 : gins T (xs ++ [z]) (css ++ [cs]) = gins T xs css ++ [T.own z cs.1] := by
    unfold gins
    rw [List.zipWith_append hbl.symm]
    rfl
  rw [hg2, List.append_assoc]
  exact sat.tail (M := row (Fl.raw T.sz T.pos) e A' (xs ++ [z]).length c' (css ++ [cs]) :: gins T xs css) (fun h s => ent_stars ent (stars_drop s)) hs3
theorem grow_rd {h H : PHeap} (o : grow T e A m c xs h) (s : Sub h H) : RdS T.rep H A xs := fun i x hx => by
  have hi : i < xs.length := (List.getElem?_eq_some_iff.1 hx).1
  have hlen : xs.length = m := (grow_len o).1
  subst hlen
  obtain ⟨css, hb, h1, h2, ow, inn, _, s1, s2⟩ := o
  have hbi : i < css.length := by omega
  have hbe : css[i]? = some css[i] := List.getElem?_eq_getElem hbi
  obtain ⟨h', ro, sr⟩ := stars_get inn (gins_get hx hbe)
  rw [← hb] at ow
  obtain ⟨ad, cs, hA, hk, hr⟩ := row_rd ow (s1.trans s) i css[i] hbe
  have hk' : cs = css[i].1 := hk
  subst hk'
  refine ⟨ad, css[i].1, hA, T.rd ro (sr.trans (s2.trans s)), ?_⟩
  rw [T.rsz]
  exact hr
theorem At.freezeGrow (f : Frt l (grow T e A m c xs) l')
    (k : ∀ R', RdS T.rep R'.heap A xs → xs.length = m → m ≤ c → Sub R.heap R'.heap → (∀ l w, sat R' l w → sat R (grow T e A m c xs :: l) w) → At n ds R' env l' K) : At n ds R env l K := fun a w e0 hs => by
  obtain ⟨h1, o, dj, hs'⟩ := (hs.frt f).freeze
  exact k (R.add h1) (grow_rd o (uni_left _ _)) (grow_len o).1 (grow_len o).2 (uni_right dj) (fun l w h => h.thaw o dj) a w e0 hs'
/-! ### Pointers that may be nil -/
theorem At.optNone (T : Ow α) (t : Nat) (h : At n ds R env (optb T t none none :: l) K) : At n ds R env l K := fun a w e0 hs => h a w e0 (by
  obtain ⟨ok, k, s, d⟩ := hs
  exact ⟨ok, k, stars_add trivial s, d⟩)
theorem At.optSome {b : Nat} {x : α} {cs : List Value} {L : List HProp} (ent : Ent L (T.own x cs)) (h : At n ds R env (optb T t (some b) (some x) :: l') K) : At n ds R env (pt b (.cells cs.toArray t) :: (L ++ l')) K := fun a w e0 hs => h a w e0 (by
  obtain ⟨ok, k, ⟨h1, h2, p, s, d, t1, t2⟩, dR, ss⟩ := hs
  obtain ⟨h3, h4, o, s', d', t3, t4⟩ := ent_stars ent s
  have d13 : Disj h1 h3 := d.sub (Sub.refl _) t3
  refine ⟨ok, k, ⟨uni h1 h3, h4, ⟨cs, h1, h3, p, ⟨h3, fun _ => none, o, trivial, (fun _ _ _ _ e => by cases e), Sub.refl _, (fun _ _ e => by cases e)⟩, d13, uni_left _ _, uni_right d13⟩, s', Disj.uni_l (d.sub (Sub.refl _) t4) d', uni_sub t1 (t3.trans t2), t4.trans t2⟩, dR, ss⟩)
theorem At.optOpen [Inhabited α] {p : Option Nat} {o : Option α} (f : Frt l (optb T t p o) l') (ho : o.isNone = false)
    (h : ∀ b, p = some b → ∀ cs, At n ds R env (pt b (.cells cs.toArray t) :: T.own (o.getD default) cs :: l') K) : At n ds R env l K := fun a w e0 hs => by
  have hs1 := hs.frt f
  cases o with
  | none => cases ho
  | some x =>
    cases p with
    | none => obtain ⟨_, k, _⟩ := hs1.head; exact k.elim
    | some b =>
      obtain ⟨ok, k, ⟨h1, h2, ⟨cs, k1, k2, p1, ⟨k3, _, p2, _, _, u1, _⟩, d1, v1, v2⟩, s, d, t1, t2⟩, dR, ss⟩ := hs1
      have k12 : Disj k1 k3 := d1.sub (Sub.refl _) u1
      refine h b rfl cs a w e0 ⟨ok, k, ⟨k1, uni k3 h2, p1, ⟨k3, h2, p2, s, d.sub (u1.trans v2) (Sub.refl _), uni_left _ _, uni_right (d.sub (u1.trans v2) (Sub.refl _))⟩, Disj.uni_r k12 (d.sub v1 (Sub.refl _)), v1.trans t1, uni_sub ((u1.trans v2).trans t1) t2⟩, dR, ss⟩
theorem At.ownFl {F : Fl α} {x : α} {cs : List Value} (f : Frt l ((Ow.fl F).own x cs) l') (h : cs = F.enc x → At n ds R env l' K) : At n ds R env l K := fun a w e0 hs =>
  h (let ⟨_, o, _⟩ := (hs.frt f).head; o) a w e0 (hs.frt f).drop
theorem run_eqPtr {w : World} {el : Nat} {ii : TI} (hi : ti P t = some ii) (hk : ii.k = .pointer el) (p : Option Nat) : (Op.equal t (optp p) (.pointer none)).run P w = .ok p.isNone w := by
  show (Op.equalIn (9999 + 1) t _ _).run P w = _
  unfold Op.equalIn
  simp only [Sem.run_bind, run_underlying ((ti_ok hi).pointer hk), Result.andThen_ok]
  cases p <;> rfl
theorem run_eqIf {w : World} {ii : TI} (hi : ti P t = some ii) (hk : ii.k = .iface) (tt : Nat) (p : Option Nat) : (Op.equal t (opti tt p) .nilIface).run P w = .ok p.isNone w := by
  obtain ⟨ms, hu⟩ := (ti_ok hi).iface hk
  show (Op.equalIn (9999 + 1) t _ _).run P w = _
  unfold Op.equalIn
  simp only [Sem.run_bind, run_underlying hu, Result.andThen_ok]
  cases p <;> rfl
theorem opt_isNone {w : World} {tt : Nat} {p : Option Nat} {o : Option α} (f : Frt l (optb T tt p o) l') (hs : sat R l w) : p.isNone = o.isNone := let ⟨_, k, _⟩ := (hs.frt f).head; optb_none k
theorem Y.eqOpt {x y : Operand} {yt tt el : Nat} {p : Option Nat} {o : Option α} {ii : TI} (f : Frt l (optb T tt p o) l') (hi : ti P t = some ii) (hk : ii.k = .pointer el) (hx : ev env x = some (optp p)) (hy : ev env y = some (.pointer none)) :
    Y P n ds R env l ⟨dd, .binOp .eql t x y yt, ty, pos, af, g⟩ (.bool o.isNone) := fun a w e0 hs => by
  have := run_eqPtr (P := P) (w := w) hi hk p
  have h2 := opt_isNone f hs
  simp only [execOp, e0.ev hx, e0.ev hy, eqGuard, Sem.run_bind]
  simp [optp, binOp] at this ⊢
  simp [this, h2]
theorem Y.neOpt {x y : Operand} {yt tt el : Nat} {p : Option Nat} {o : Option α} {ii : TI} (f : Frt l (optb T tt p o) l') (hi : ti P t = some ii) (hk : ii.k = .pointer el) (hx : ev env x = some (optp p)) (hy : ev env y = some (.pointer none)) :
    Y P n ds R env l ⟨dd, .binOp .neq t x y yt, ty, pos, af, g⟩ (.bool (!o.isNone)) := fun a w e0 hs => by
  have := run_eqPtr (P := P) (w := w) hi hk p
  have h2 := opt_isNone f hs
  simp only [execOp, e0.ev hx, e0.ev hy, eqGuard, Sem.run_bind]
  simp [optp, binOp] at this ⊢
  simp [this, h2]
theorem Y.eqOptI {x : Operand} {yt tt ti' : Nat} {p : Option Nat} {o : Option α} {ii : TI} (f : Frt l (optb T tt p o) l') (hi : ti P t = some ii) (hk : ii.k = .iface) (hx : ev env x = some (opti ti' p)) :
    Y P n ds R env l ⟨dd, .binOp .eql t x (.const .nilIface) yt, ty, pos, af, g⟩ (.bool o.isNone) := fun a w e0 hs => by
  have := run_eqIf (P := P) (w := w) hi hk ti' p
  have h2 := opt_isNone f hs
  have hc : a.eval (.const .nilIface) = .nilIface := rfl
  cases p with
  | none => simp [execOp, e0.ev hx, hc, eqGuard, opti, binOp] at this ⊢; simp [this, ← h2]
  | some b => simp [execOp, e0.ev hx, hc, eqGuard, opti, binOp] at this ⊢; simp [this, ← h2]
theorem Y.neOptI {x : Operand} {yt tt ti' : Nat} {p : Option Nat} {o : Option α} {ii : TI} (f : Frt l (optb T tt p o) l') (hi : ti P t = some ii) (hk : ii.k = .iface) (hx : ev env x = some (opti ti' p)) :
    Y P n ds R env l ⟨dd, .binOp .neq t x (.const .nilIface) yt, ty, pos, af, g⟩ (.bool (!o.isNone)) := fun a w e0 hs => by
  have := run_eqIf (P := P) (w := w) hi hk ti' p
  have h2 := opt_isNone f hs
  have hc : a.eval (.const .nilIface) = .nilIface := rfl
  cases p with
  | none => simp [execOp, e0.ev hx, hc, eqGuard, opti, binOp] at this ⊢; simp [this, ← h2]
  | some b => simp [execOp, e0.ev hx, hc, eqGuard, opti, binOp] at this ⊢; simp [this]; cases o <;> simp_all
theorem Y.eqPtrK {x y : Operand} {v : Value} {yt el : Nat} (p : Option Nat) {ii : TI} (hi : ti P t = some ii) (hk : ii.k = .pointer el) (hx : ev env x = some v) (hv : v = optp p) (hy : ev env y = some (.pointer none)) :
    Y P n ds R env l ⟨dd, .binOp .eql t x y yt, ty, pos, af, g⟩ (.bool p.isNone) := fun a w e0 hs => by
  subst hv
  have := run_eqPtr (P := P) (w := w) hi hk p
  simp only [execOp, e0.ev hx, e0.ev hy, eqGuard, Sem.run_bind]
  simp [optp, binOp] at this ⊢
  simp [this]
theorem Y.nePtrK {x y : Operand} {v : Value} {yt el : Nat} (p : Option Nat) {ii : TI} (hi : ti P t = some ii) (hk : ii.k = .pointer el) (hx : ev env x = some v) (hv : v = optp p) (hy : ev env y = some (.pointer none)) :
    Y P n ds R env l ⟨dd, .binOp .neq t x y yt, ty, pos, af, g⟩ (.bool (!p.isNone)) := fun a w e0 hs => by
  subst hv
  have := run_eqPtr (P := P) (w := w) hi hk p
  simp only [execOp, e0.ev hx, e0.ev hy, eqGuard, Sem.run_bind]
  simp [optp, binOp] at this ⊢
  simp [this]
theorem Y.eqIfK {x : Operand} {v : Value} {yt ti' : Nat} (p : Option Nat) {ii : TI} (hi : ti P t = some ii) (hk : ii.k = .iface) (hx : ev env x = some v) (hv : v = opti ti' p) :
    Y P n ds R env l ⟨dd, .binOp .eql t x (.const .nilIface) yt, ty, pos, af, g⟩ (.bool p.isNone) := fun a w e0 hs => by
  subst hv
  have := run_eqIf (P := P) (w := w) hi hk ti' p
  have hc : a.eval (.const .nilIface) = .nilIface := rfl
  cases p with
  | none => simp [execOp, e0.ev hx, hc, eqGuard, opti, binOp] at this ⊢; simp [this]
  | some b => simp [execOp, e0.ev hx, hc, eqGuard, opti, binOp] at this ⊢; simp [this]
theorem Y.neIfK {x : Operand} {v : Value} {yt ti' : Nat} (p : Option Nat) {ii : TI} (hi : ti P t = some ii) (hk : ii.k = .iface) (hx : ev env x = some v) (hv : v = opti ti' p) :
    Y P n ds R env l ⟨dd, .binOp .neq t x (.const .nilIface) yt, ty, pos, af, g⟩ (.bool (!p.isNone)) := fun a w e0 hs => by
  subst hv
  have := run_eqIf (P := P) (w := w) hi hk ti' p
  have hc : a.eval (.const .nilIface) = .nilIface := rfl
  cases p with
  | none => simp [execOp, e0.ev hx, hc, eqGuard, opti, binOp] at this ⊢; simp [this]
  | some b => simp [execOp, e0.ev hx, hc, eqGuard, opti, binOp] at this ⊢; simp [this]
theorem At.ownPair {β : Type} {U : Ow β} {x : α × β} {cs : List Value} (f : Frt l ((T.pair U).own x cs) l') (h : ∀ c1 c2, cs = c1 ++ c2 → At n ds R env (T.own x.1 c1 :: U.own x.2 c2 :: l') K) : At n ds R env l K := fun a w e0 hs => by
  obtain ⟨ok, k, ⟨h1, h2, ⟨c1, c2, e1, k1, k2, a1, ⟨k3, _, a2, _, _, u1, _⟩, d1, v1, v2⟩, s, d, t1, t2⟩, dR, ss⟩ := hs.frt f
  exact h c1 c2 e1 a w e0 ⟨ok, k, ⟨k1, uni k3 h2, a1, ⟨k3, h2, a2, s, d.sub (u1.trans v2) (Sub.refl _), uni_left _ _, uni_right (d.sub (u1.trans v2) (Sub.refl _))⟩, Disj.uni_r (d1.sub (Sub.refl _) u1) (d.sub v1 (Sub.refl _)), v1.trans t1, uni_sub ((u1.trans v2).trans t1) t2⟩, dR, ss⟩
theorem At.ownSl {β : Type} {F : Fl β} {e : Nat} {xs : List β} {cs : List Value} (f : Frt l ((Ow.sl F e).own xs cs) l') (h : ∀ A c, cs = [.slice A xs.length c] → At n ds R env (row F e A xs.length c xs :: l') K) : At n ds R env l K := fun a w e0 hs => by
  obtain ⟨ok, k, ⟨h1, h2, ⟨A, c, e1, r⟩, s⟩, dR⟩ := hs.frt f
  exact h A c e1 a w e0 ⟨ok, k, ⟨h1, h2, r, s⟩, dR⟩
end
end Go.Bw
