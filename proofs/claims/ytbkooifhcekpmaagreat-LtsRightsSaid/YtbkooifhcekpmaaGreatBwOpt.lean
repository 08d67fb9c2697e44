/- Rows of rows, some of which the call has given away. Conditions: none. -/
import Derived.Test.YtbkooifhcekpmaaGreatBwSpare
set_option linter.unusedVariables false
set_option linter.unusedSimpArgs false
set_option linter.unusedSectionVars false
namespace Go.Bw
open Go Go.RowKit

section
variable {α : Type}
def ohdr (b : Option Addr × Nat × Nat) : { v : Value // v.oneCell' = true } := ⟨.slice b.1 b.2.1 b.2.2, rfl⟩
def oin (F : Fl α) (ei : Nat) (b : Option Addr × Nat × Nat) (o : Option (List α)) : HProp := fun h => match o with
  | some xs => row F ei b.1 b.2.1 b.2.2 xs h
  | none => True
def oins (F : Fl α) (ei : Nat) (bs : List (Option Addr × Nat × Nat)) (oss : List (Option (List α))) : List HProp := List.zipWith (oin F ei) bs oss
/-- Rows of the call's own; of those that are none only the header is left. -/
def orows (F : Fl α) (ei e : Nat) (A : Option Addr) (n c : Nat) (oss : List (Option (List α))) : HProp := fun h =>
  ∃ bs : List (Option Addr × Nat × Nat), (fun h => bs.length = oss.length ∧ stars (row Fl.val e A n c (bs.map ohdr) :: oins F ei bs oss) h) h
theorem sat.orows {R : Res} {F : Fl α} {ei e : Nat} {A : Option Addr} {n c : Nat} {oss : List (Option (List α))} {l : List HProp} {w : World} :
    sat R (Bw.orows F ei e A n c oss :: l) w ↔ ∃ bs : List (Option Addr × Nat × Nat), bs.length = oss.length ∧ sat R (row Fl.val e A n c (bs.map ohdr) :: (oins F ei bs oss ++ l)) w := by
  unfold Bw.orows
  rw [sat.ex]
  constructor
  · rintro ⟨bs, h⟩
    have hb : bs.length = oss.length := let ⟨_, o, _⟩ := h.head; o.1
    exact ⟨bs, hb, sat.flat.1 (h.imp fun h o => o.2)⟩
  · rintro ⟨bs, hb, h⟩
    exact ⟨bs, (sat.flat.2 h).imp fun h o => ⟨hb, o⟩⟩
theorem orows_len {F : Fl α} {ei e : Nat} {A : Option Addr} {n c : Nat} {oss : List (Option (List α))} {h : PHeap} (o : orows F ei e A n c oss h) : oss.length = n ∧ n ≤ c := by
  obtain ⟨bs, hb, h1, _, o, _⟩ := o
  have := row_len o
  rw [List.length_map] at this
  refine ⟨by omega, ?_⟩
  rw [← this, ← List.length_map (as := bs) ohdr] at o
  have := row_le o
  rw [List.length_map] at this
  omega
theorem oins_get {F : Fl α} {ei : Nat} {bs : List (Option Addr × Nat × Nat)} {oss : List (Option (List α))} {i : Nat} {b : Option Addr × Nat × Nat} {o : Option (List α)} (hb : bs[i]? = some b) (ho : oss[i]? = some o) : (oins F ei bs oss)[i]? = some (oin F ei b o) := by
  unfold oins
  rw [List.getElem?_zipWith, hb, ho]
theorem oins_set {F : Fl α} {ei : Nat} {o : Option (List α)} : ∀ {bs : List (Option Addr × Nat × Nat)} {oss : List (Option (List α))} {i : Nat} {b : Option Addr × Nat × Nat}, bs[i]? = some b → oins F ei bs (oss.set i o) = (oins F ei bs oss).set i (oin F ei b o)
  | [], _, _, _, h => by simp at h
  | _ :: _, [], _, _, _ => by simp [oins]
  | a :: bs, x :: oss, 0, b, h => by simp at h; subst h; simp [oins]
  | a :: bs, x :: oss, i + 1, b, h => by
    have := oins_set (F := F) (ei := ei) (o := o) (bs := bs) (oss := oss) (i := i) (b := b) (by simpa using h)
    simpa [oins] using this
theorem sat.true_ {R : Res} {l : List HProp} {w : World} (h : sat R l w) : sat R ((fun _ => True) :: l) w := h.emp.imp fun _ _ => trivial
theorem rows_orows {F : Fl α} {ei e : Nat} {A : Option Addr} {n c : Nat} {xss : List (List α)} {h : PHeap} (o : rows F ei e A n c xss h) : orows F ei e A n c (xss.map some) h := by
  obtain ⟨bs, hb, o⟩ := o
  have key : ∀ (bs : List (Option Addr × Nat)) (xss : List (List α)), bs.length = xss.length → (List.zipWith (fun b xs => (b.1, List.length xs, b.2)) bs xss).map ohdr = hdv bs xss ∧ oins F ei (List.zipWith (fun b xs => (b.1, List.length xs, b.2)) bs xss) (xss.map some) = inns F ei bs xss := by
    intro bs
    induction bs with
    | nil => intro xss h; cases xss with | nil => exact ⟨rfl, rfl⟩ | cons => simp at h
    | cons b bs ih =>
      intro xss h
      cases xss with
      | nil => simp at h
      | cons x xss =>
        obtain ⟨h1, h2⟩ := ih xss (by simpa using h)
        refine ⟨?_, ?_⟩
        · rw [List.zipWith_cons_cons, List.map_cons, h1]; rfl
        · unfold oins at h2 ⊢
          rw [List.zipWith_cons_cons, List.map_cons, List.zipWith_cons_cons, h2]; rfl
  obtain ⟨h1, h2⟩ := key bs xss hb
  refine ⟨List.zipWith (fun b xs => (b.1, List.length xs, b.2)) bs xss, by simp [hb], ?_⟩
  rw [h1, h2, ← own_hdv]
  exact o
def Rep.opt (T : Rep α) : Rep (Option (List α)) := ⟨1, fun H o cs => ∃ A n c, cs = [.slice A n c] ∧ ∀ xs, o = some xs → xs.length = n ∧ n ≤ c ∧ RdS T H A xs,
  fun ⟨_, _, _, h, _⟩ => by rw [h]; rfl, fun s ⟨A, n, c, h1, h2⟩ => ⟨A, n, c, h1, fun xs hx => let ⟨a, b, r⟩ := h2 xs hx; ⟨a, b, r.mono s⟩⟩, by decide⟩
end
section
variable {P : Program} [Tys P] {os : List Oper} {Q : Exit → Act → World → Prop} {rest : List Oper} {n : Nat} {ds : List Deferred} {R : Res} {env : List (Nat × Value)} {l l' : List HProp}
variable {d ty : Nat} {pos : String} {af : Array Edge} {g : Option (Nat × Bool)} {α : Type} {F : Fl α} {T : Rep α} {e ei t : Nat} {A : Option Addr} {c m : Nat} {xss : List (List α)} {oss : List (Option (List α))} {K : Act → World → Prop} {dd : Option Nat}
theorem At.toOrows (f : Frt l (rows F ei e A m c xss) l') (h : At n ds R env (orows F ei e A m c (xss.map some) :: l') K) : At n ds R env l K := fun a w e0 hs => h a w e0 ((hs.frt f).imp fun _ o => rows_orows o)
/-- A row that was taken out stays away. -/
theorem At.holeOrows {i : Int} {B : Option Addr} {cb : Nat} (f : Frt l (hole F ei e A m c xss i B cb) l') (h : At n ds R env (orows F ei e A m c (Bw.st (xss.map some) i none) :: l') K) : At n ds R env l K := fun a w e0 hs => h a w e0 (by
  obtain ⟨bs, ⟨hb, hbi⟩, h2⟩ := sat.hole.1 (hs.frt f)
  have key : ∀ (bs : List (Option Addr × Nat)) (xss : List (List α)), bs.length = xss.length → (List.zipWith (fun b xs => (b.1, List.length xs, b.2)) bs xss).map ohdr = hdv bs xss ∧ oins F ei (List.zipWith (fun b xs => (b.1, List.length xs, b.2)) bs xss) (xss.map some) = inns F ei bs xss := by
    intro bs
    induction bs with
    | nil => intro xss h; cases xss with | nil => exact ⟨rfl, rfl⟩ | cons => simp at h
    | cons b bs ih =>
      intro xss h
      cases xss with
      | nil => simp at h
      | cons x xss =>
        obtain ⟨h1, h2⟩ := ih xss (by simpa using h)
        refine ⟨?_, ?_⟩
        · rw [List.zipWith_cons_cons, List.map_cons, h1]; rfl
        · unfold oins at h2 ⊢
          rw [List.zipWith_cons_cons, List.map_cons, List.zipWith_cons_cons, h2]; rfl
  obtain ⟨k1, k2⟩ := key bs xss hb
  have hlt : i.toNat < bs.length := (List.getElem?_eq_some_iff.1 hbi).1
  refine sat.orows.2 ⟨List.zipWith (fun b xs => (b.1, List.length xs, b.2)) bs xss, by simp [hb, Bw.st], ?_⟩
  obtain ⟨b', hb'⟩ : ∃ b', (List.zipWith (fun (b : Option Addr × Nat) (xs : List α) => (b.1, List.length xs, b.2)) bs xss)[i.toNat]? = some b' := ⟨_, List.getElem?_eq_getElem (by simp; omega)⟩
  unfold Bw.st
  rw [k1, oins_set hb', k2, ← own_hdv]
  have h3 := h2.true_
  have hil : (inns F ei bs xss).length = xss.length := by simp [inns, hb]
  have fr3 : Frt ((inns F ei bs xss).set i.toNat (fun _ => True) ++ l') (fun _ => True) ((inns F ei bs xss).eraseIdx i.toNat ++ l') := by
    have h5 := frt_erase (l := l') (L := (inns F ei bs xss).set i.toNat (fun _ => True)) (i := i.toNat) (c := fun _ => True) (by
      rw [List.getElem?_set, if_pos rfl, if_pos (by rw [hil]; omega)])
    rwa [erase_set] at h5
  have fr4 : Frt (own e 1 A m c (hdrs bs xss) :: ((inns F ei bs xss).set i.toNat (fun _ => True) ++ l')) (fun _ => True) (own e 1 A m c (hdrs bs xss) :: ((inns F ei bs xss).eraseIdx i.toNat ++ l')) := .s fr3
  exact h3.back fr4)
theorem At.orowsLen (f : Frt l (orows F ei e A m c oss) l') (h : oss.length = m → m ≤ c → At n ds R env l K) : At n ds R env l K := fun a w e0 hs =>
  let ⟨_, o, _⟩ := (hs.frt f).head
  h (orows_len o).1 (orows_len o).2 a w e0 hs
theorem Y.ixO (f : Frt l (orows F ei e A m c oss) l') {x y : Operand} {i : Int} {k : IntKind} {ii j : TI} (hi : ti P t = some ii) (hk : ii.k = .slice e) (hx : ev env x = some (.slice A m c)) (hy : ev env y = some (.int k i)) (hj : ti P e = some j) (hjs : j.size = 1) (h0 : 0 ≤ i) (h1 : i < (m : Int)) :
    Y P n ds R env l ⟨dd, .indexAddr t x y, ty, pos, af, g⟩ (elp A (i.toNat * 1)) := fun a w e0 hs => by
  obtain ⟨bs, hb, h2⟩ := sat.orows.1 (hs.frt f)
  have hm : oss.length = m := let ⟨_, o, _⟩ := (hs.frt f).head; (orows_len o).1
  subst hm
  have hl : (bs.map ohdr).length = oss.length := by simpa using hb
  rw [← hl] at h2 hx h1
  exact Y.ixOwn (F := Fl.val) .z hi hk hx hy hj hjs h0 h1 a w e0 h2
/-- A row is taken out for good: its header is read. -/
theorem At.openO (hg : grd os env g = some true) (f : Frt l (orows F ei e A m c oss) l') {x : Operand} {i : Int} {ii : TI} (hi : ti P t = some ii) (hx : ev env x = some (elp A (i.toNat * 1))) (hz : ii.size = 1) (ha : agg ii.k = false) (h0 : 0 ≤ i) (h1 : i < (m : Int)) (hsm : (gt oss i).isSome = true) (hd : Nat.blt d n = true)
    (h : ∀ B cb, At n ds R ((d, .slice B ((gt oss i).getD []).length cb) :: env) (orows F ei e A m c (Bw.st oss i none) :: row F ei B ((gt oss i).getD []).length cb ((gt oss i).getD []) :: l') (wpList P os.toArray Q rest)) :
    At n ds R env l (wpList P os.toArray Q (⟨some d, .load t x, ty, pos, af, g⟩ :: rest)) := op_ex hg rfl hd fun a w e0 hs => by
  have hs1 := hs.frt f
  obtain ⟨bs, hb, h2⟩ := sat.orows.1 hs1
  have hm : oss.length = m := let ⟨_, o, _⟩ := hs1.head; (orows_len o).1
  subst hm
  have hlt : i.toNat < bs.length := by omega
  have hbi : bs[i.toNat]? = some bs[i.toNat] := List.getElem?_eq_getElem hlt
  have hgx := gt_some h0 h1
  obtain ⟨ys, hys⟩ := Option.isSome_iff_exists.1 hsm
  rw [hys] at hgx h
  have hl : (bs.map ohdr).length = oss.length := by simpa using hb
  have fr : Frt (row Fl.val e A oss.length c (bs.map ohdr) :: (oins F ei bs oss ++ l')) (oin F ei bs[i.toNat] (some ys)) (row Fl.val e A oss.length c (bs.map ohdr) :: ((oins F ei bs oss).eraseIdx i.toNat ++ l')) := .s (frt_erase (oins_get hbi hgx))
  have h3 := h2.frt fr
  have hyl : ys.length = bs[i.toNat].2.1 := let ⟨_, o, _⟩ := h3.head; row_len o
  have hval : gt (bs.map ohdr) i = ⟨.slice bs[i.toNat].1 ys.length bs[i.toNat].2.2, rfl⟩ := by
    have := gt_some (xs := bs.map ohdr) h0 (by rw [hl]; exact h1)
    rw [List.getElem?_map, hbi] at this
    have := (Option.some.inj this).symm
    rw [this, hyl]; rfl
  refine ⟨.slice bs[i.toNat].1 ys.length bs[i.toNat].2.2, w, _, ?_, ?_, h bs[i.toNat].1 bs[i.toNat].2.2⟩
  · have h4 := h2
    rw [← hl] at h4
    refine Y.ldOwn (F := Fl.val) (q := 0) (dd := some d) .z hi hx h0 (by rw [hl]; exact h1) (by rw [hz]; rfl) (by rw [hz]; rfl) ?_ a w e0 h4
    rw [hval]
    simp [partOf, hi, ha, Fl.val]
  · have h5 := h3.true_
    have h6 : sat R ((fun _ => True) :: row Fl.val e A oss.length c (bs.map ohdr) :: ((oins F ei bs oss).eraseIdx i.toNat ++ row F ei bs[i.toNat].1 ys.length bs[i.toNat].2.2 ys :: l')) w := by
      have fr2 : Frt ((fun _ => True) :: row Fl.val e A oss.length c (bs.map ohdr) :: ((oins F ei bs oss).eraseIdx i.toNat ++ row F ei bs[i.toNat].1 ys.length bs[i.toNat].2.2 ys :: l')) (row F ei bs[i.toNat].1 ys.length bs[i.toNat].2.2 ys) ((fun _ => True) :: row Fl.val e A oss.length c (bs.map ohdr) :: ((oins F ei bs oss).eraseIdx i.toNat ++ l')) := .s (.s (frt_app .z))
      refine sat.back fr2 ?_
      refine (sat.frt (.s .z) h5).imp fun h o => ?_
      rw [hyl]; exact o
    have hil : (oins F ei bs oss).length = oss.length := by simp [oins, hb]
    refine sat.orows.2 ⟨bs, by simp [hb, Bw.st], ?_⟩
    unfold Bw.st
    rw [oins_set hbi]
    have fr3 : Frt ((oins F ei bs oss).set i.toNat (oin F ei bs[i.toNat] none) ++ row F ei bs[i.toNat].1 ys.length bs[i.toNat].2.2 ys :: l') (oin F ei bs[i.toNat] none) ((oins F ei bs oss).eraseIdx i.toNat ++ row F ei bs[i.toNat].1 ys.length bs[i.toNat].2.2 ys :: l') := by
      have h7 := frt_erase (l := row F ei bs[i.toNat].1 ys.length bs[i.toNat].2.2 ys :: l') (L := (oins F ei bs oss).set i.toNat (oin F ei bs[i.toNat] none)) (i := i.toNat) (c := oin F ei bs[i.toNat] none) (by
        rw [List.getElem?_set, if_pos rfl, if_pos (by rw [hil]; omega)])
      rwa [erase_set] at h7
    exact sat.back (.s fr3) (h6.imp fun _ _ => trivial)
theorem orows_rd {h H : PHeap} (o : orows F ei e A m c oss h) (s : Sub h H) : RdS F.rep.opt H A oss := fun i x hx => by
  have hi : i < oss.length := (List.getElem?_eq_some_iff.1 hx).1
  have hlen : oss.length = m := (orows_len o).1
  subst hlen
  obtain ⟨bs, hb, h1, h2, ow, inn, _, s1, s2⟩ := o
  have hbi : i < bs.length := by omega
  have hbe : bs[i]? = some bs[i] := List.getElem?_eq_getElem hbi
  obtain ⟨h', ro, sr⟩ := stars_get inn (oins_get hbe hx)
  have hl : (bs.map ohdr).length = oss.length := by simpa using hb
  rw [← hl] at ow
  obtain ⟨ad, cs, hA, hk, hr⟩ := row_rd ow (s1.trans s) i (ohdr bs[i]) (by rw [List.getElem?_map, hbe]; rfl)
  refine ⟨ad, cs, hA, ⟨bs[i].1, bs[i].2.1, bs[i].2.2, hk, fun xs hxs => ?_⟩, hr⟩
  subst hxs
  have ro' : row F ei bs[i].1 bs[i].2.1 bs[i].2.2 xs h' := ro
  have := row_len ro'
  rw [← this] at ro' ⊢
  exact ⟨rfl, row_le ro', row_rd ro' (sr.trans (s2.trans s))⟩
theorem At.freezeOrows (f : Frt l (orows F ei e A m c oss) l')
    (k : ∀ R', RdS F.rep.opt R'.heap A oss → oss.length = m → m ≤ c → Sub R.heap R'.heap → (∀ l w, sat R' l w → sat R (orows F ei e A m c oss :: l) w) → At n ds R' env l' K) : At n ds R env l K := fun a w e0 hs => by
  obtain ⟨h1, o, dj, hs'⟩ := (hs.frt f).freeze
  exact k (R.add h1) (orows_rd o (uni_left _ _)) (orows_len o).1 (orows_len o).2 (uni_right dj) (fun l w h => h.thaw o dj) a w e0 hs'
/-- A row that is still there is read. -/
theorem RdS.rowAtO {H0 : PHeap} {m : Nat} (hr : RdS T.opt H0 A oss) (sb : Sub H0 R.heap) (hm : oss.length = m) {i : Int} (h0 : 0 ≤ i) (h1 : i < (m : Int)) (hsm : (gt oss i).isSome = true) : ∃ B cb, ((gt oss i).getD []).length ≤ cb ∧ RdS T H0 B ((gt oss i).getD []) ∧
    ∀ {x : Operand} {ii : TI} {dd : Option Nat} {env : List (Nat × Value)} {l : List HProp} (hi : ti P t = some ii) (hx : ev env x = some (elp A (i.toNat * 1))) (hs1 : ii.size = 1) (hag : agg ii.k = false),
      Y P n ds R env l ⟨dd, .load t x, ty, pos, af, g⟩ (.slice B ((gt oss i).getD []).length cb) := by
  subst hm
  obtain ⟨ad, cs, rfl, ⟨B, q, cb, h2, h3⟩, h5⟩ := hr.at_ h0 h1
  obtain ⟨ys, hys⟩ := Option.isSome_iff_exists.1 hsm
  obtain ⟨h6, h7, h8⟩ := h3 ys hys
  rw [hys]
  subst h6
  refine ⟨B, cb, h7, h8, fun {x ii dd env l} hi hx hs1 hag a w e0 hs => ?_⟩
  subst h2
  have := run_loadVar_cells (P := P) (w := w) (a := ad.add (i.toNat * 1)) (cs := [.slice B ys.length cb]) (v := .slice B ys.length cb) hi (by rw [hs1]; rfl) (fun j u hu => by
    exact h5.cell (sb.trans (sat_sub hs)) hu) (by unfold partOf; rw [hi]; simp [hag])
  simp only [execOp, e0.ev hx, elp, Instr.loadAt, Instr.sureAddr, Sem.run_bind, Sem.run_pure, Result.andThen, this]
  rfl
end
end Go.Bw
