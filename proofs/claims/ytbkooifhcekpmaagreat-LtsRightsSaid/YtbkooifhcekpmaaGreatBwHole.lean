/- A row of rows, one of its rows taken out for a while. Conditions: none. -/
import Derived.Test.YtbkooifhcekpmaaGreatBwArr
set_option linter.unusedVariables false
set_option linter.unusedSimpArgs false
set_option linter.unusedSectionVars false
namespace Go.Bw
open Go Go.RowKit

instance : Inhabited { v : Value // v.oneCell' = true } := ⟨⟨.nilFunc, rfl⟩⟩
section
variable {α : Type}
def hdv (bs : List (Option Addr × Nat)) (xss : List (List α)) : List { v : Value // v.oneCell' = true } := List.zipWith (fun b xs => ⟨.slice b.1 xs.length b.2, rfl⟩) bs xss
theorem flat_hdv (bs : List (Option Addr × Nat)) (xss : List (List α)) : (hdv bs xss).flatMap Fl.val.enc = hdrs bs xss := by
  rw [flat_val]
  unfold hdv hdrs
  rw [List.map_zipWith]
theorem own_hdv (e : Nat) (A : Option Addr) (n c : Nat) (bs : List (Option Addr × Nat)) (xss : List (List α)) : own e 1 A n c (hdrs bs xss) = row Fl.val e A n c (hdv bs xss) := by
  unfold row
  rw [flat_hdv]
  rfl
theorem hdv_len {bs : List (Option Addr × Nat)} {xss : List (List α)} (h : bs.length = xss.length) : (hdv bs xss).length = xss.length := by simp [hdv, h]
def hole (F : Fl α) (ei e : Nat) (A : Option Addr) (n c : Nat) (xss : List (List α)) (i : Int) (B : Option Addr) (cb : Nat) : HProp := fun h =>
  ∃ bs : List (Option Addr × Nat), (fun h => (bs.length = xss.length ∧ bs[i.toNat]? = some (B, cb)) ∧ stars (own e 1 A n c (hdrs bs xss) :: (inns F ei bs xss).eraseIdx i.toNat) h) h
theorem sat.hole {R : Res} {F : Fl α} {ei e : Nat} {A : Option Addr} {n c : Nat} {xss : List (List α)} {i : Int} {B : Option Addr} {cb : Nat} {l : List HProp} {w : World} :
    sat R (Bw.hole F ei e A n c xss i B cb :: l) w ↔ ∃ bs : List (Option Addr × Nat), (bs.length = xss.length ∧ bs[i.toNat]? = some (B, cb)) ∧ sat R (own e 1 A n c (hdrs bs xss) :: ((inns F ei bs xss).eraseIdx i.toNat ++ l)) w := by
  unfold Bw.hole
  rw [sat.ex]
  constructor
  · rintro ⟨bs, h⟩
    have hb := let ⟨_, o, _⟩ := h.head; o.1
    exact ⟨bs, hb, sat.flat.1 (h.imp fun h o => o.2)⟩
  · rintro ⟨bs, hb, h⟩
    exact ⟨bs, (sat.flat.2 h).imp fun h o => ⟨hb, o⟩⟩
theorem frt_erase : ∀ {L : List HProp} {i : Nat} {c : HProp} {l : List HProp}, L[i]? = some c → Frt (L ++ l) c (L.eraseIdx i ++ l)
  | [], _, _, _, h => by simp at h
  | x :: L, 0, c, l, h => by simp at h; subst h; exact .z
  | x :: L, i + 1, c, l, h => .s (frt_erase (L := L) (i := i) (by simpa using h))
theorem frt_app {L l l' : List HProp} {c : HProp} (f : Frt l c l') : Frt (L ++ l) c (L ++ l') := by
  induction L with
  | nil => exact f
  | cons x L ih => exact .s ih
theorem inns_get {F : Fl α} {ei : Nat} {bs : List (Option Addr × Nat)} {xss : List (List α)} {i : Nat} {b : Option Addr × Nat} {xs : List α} (hb : bs[i]? = some b) (hx : xss[i]? = some xs) : (inns F ei bs xss)[i]? = some (row F ei b.1 xs.length b.2 xs) := by
  unfold inns
  rw [List.getElem?_zipWith, hb, hx]
theorem inns_set {F : Fl α} {ei : Nat} {b : Option Addr × Nat} {xs : List α} : ∀ {bs : List (Option Addr × Nat)} {xss : List (List α)} {i : Nat}, inns F ei (bs.set i b) (xss.set i xs) = (inns F ei bs xss).set i (row F ei b.1 xs.length b.2 xs)
  | [], _, _ => by simp [inns]
  | _ :: _, [], _ => by simp [inns]
  | a :: bs, x :: xss, 0 => by simp [inns]
  | a :: bs, x :: xss, i + 1 => by
    have := inns_set (F := F) (ei := ei) (b := b) (xs := xs) (bs := bs) (xss := xss) (i := i)
    simpa [inns] using this
theorem hdv_set {b : Option Addr × Nat} {xs : List α} : ∀ {bs : List (Option Addr × Nat)} {xss : List (List α)} {i : Nat}, hdv (bs.set i b) (xss.set i xs) = (hdv bs xss).set i ⟨.slice b.1 xs.length b.2, rfl⟩
  | [], _, _ => by simp [hdv]
  | _ :: _, [], _ => by simp [hdv]
  | a :: bs, x :: xss, 0 => by simp [hdv]
  | a :: bs, x :: xss, i + 1 => by
    have := hdv_set (b := b) (xs := xs) (bs := bs) (xss := xss) (i := i)
    simpa [hdv] using this
theorem erase_set : ∀ {L : List HProp} {i : Nat} {c : HProp}, (L.set i c).eraseIdx i = L.eraseIdx i
  | [], _, _ => by simp
  | x :: L, 0, c => by simp
  | x :: L, i + 1, c => by simpa using erase_set (L := L) (i := i) (c := c)
end
section
variable {P : Program} [Tys P] {os : List Oper} {Q : Exit → Act → World → Prop} {rest : List Oper} {n : Nat} {ds : List Deferred} {R : Res} {env : List (Nat × Value)} {l l' : List HProp}
variable {d ty : Nat} {pos : String} {af : Array Edge} {g : Option (Nat × Bool)} {α : Type} {F : Fl α} {e ei t : Nat} {A : Option Addr} {c m : Nat} {xss : List (List α)} {ys : List α} {K : Act → World → Prop} {dd : Option Nat}
/-- Where an element of rows lies. -/
theorem Y.ixRows (f : Frt l (rows F ei e A m c xss) l') {x y : Operand} {i : Int} {k : IntKind} {ii j : TI} (hi : ti P t = some ii) (hk : ii.k = .slice e) (hx : ev env x = some (.slice A m c)) (hy : ev env y = some (.int k i)) (hj : ti P e = some j) (hjs : j.size = 1) (h0 : 0 ≤ i) (h1 : i < (m : Int)) :
    Y P n ds R env l ⟨dd, .indexAddr t x y, ty, pos, af, g⟩ (elp A (i.toNat * 1)) := fun a w e0 hs => by
  obtain ⟨bs, hb, h2⟩ := sat.rows.1 (hs.frt f)
  have hm : xss.length = m := let ⟨_, o, _⟩ := (hs.frt f).head; (rows_len o).1
  rw [own_hdv] at h2
  subst hm
  rw [← hdv_len hb] at h2 hx h1
  exact Y.ixOwn (F := Fl.val) .z hi hk hx hy hj hjs h0 h1 a w e0 h2
/-- .. and with one of them away. -/
theorem Y.ixHole {B : Option Addr} {cb : Nat} {i' : Int} (f : Frt l (hole F ei e A m c xss i' B cb) l') {x y : Operand} {i : Int} {k : IntKind} {ii j : TI} (hi : ti P t = some ii) (hk : ii.k = .slice e) (hx : ev env x = some (.slice A m c)) (hy : ev env y = some (.int k i)) (hj : ti P e = some j) (hjs : j.size = 1) (h0 : 0 ≤ i) (h1 : i < (m : Int)) :
    Y P n ds R env l ⟨dd, .indexAddr t x y, ty, pos, af, g⟩ (elp A (i.toNat * 1)) := fun a w e0 hs => by
  obtain ⟨bs, ⟨hb, _⟩, h2⟩ := sat.hole.1 (hs.frt f)
  have hm : xss.length = m := by
    obtain ⟨_, o, _⟩ := h2.head
    have := o.1
    rwa [hdrs_len hb, Nat.mul_one] at this
  rw [own_hdv] at h2
  subst hm
  rw [← hdv_len hb] at h2 hx h1
  exact Y.ixOwn (F := Fl.val) .z hi hk hx hy hj hjs h0 h1 a w e0 h2
/-- A row is taken out: its header is read. -/
theorem At.openLd (hg : grd os env g = some true) (f : Frt l (rows F ei e A m c xss) l') {x : Operand} {i : Int} {ii : TI} (hi : ti P t = some ii) (hx : ev env x = some (elp A (i.toNat * 1))) (hz : ii.size = 1) (ha : agg ii.k = false) (h0 : 0 ≤ i) (h1 : i < (m : Int)) (hd : Nat.blt d n = true)
    (h : ∀ B cb, At n ds R ((d, .slice B (gt xss i).length cb) :: env) (hole F ei e A m c xss i B cb :: row F ei B (gt xss i).length cb (gt xss i) :: l') (wpList P os.toArray Q rest)) :
    At n ds R env l (wpList P os.toArray Q (⟨some d, .load t x, ty, pos, af, g⟩ :: rest)) := op_ex hg rfl hd fun a w e0 hs => by
  have hs1 := hs.frt f
  obtain ⟨bs, hb, h2⟩ := sat.rows.1 hs1
  have hm : xss.length = m := let ⟨_, o, _⟩ := hs1.head; (rows_len o).1
  subst hm
  have hlt : i.toNat < bs.length := by omega
  have hbi : bs[i.toNat]? = some bs[i.toNat] := List.getElem?_eq_getElem hlt
  have hgx := gt_some h0 h1
  have hval : gt (hdv bs xss) i = ⟨.slice bs[i.toNat].1 (gt xss i).length bs[i.toNat].2, rfl⟩ := by
    have := gt_some (xs := hdv bs xss) h0 (by rw [hdv_len hb]; exact h1)
    unfold hdv at this
    rw [List.getElem?_zipWith, hbi, hgx] at this
    exact (Option.some.inj this).symm
  refine ⟨.slice bs[i.toNat].1 (gt xss i).length bs[i.toNat].2, w, _, ?_, ?_, h bs[i.toNat].1 bs[i.toNat].2⟩
  · have h3 := h2
    rw [own_hdv, ← hdv_len hb] at h3
    refine Y.ldOwn (F := Fl.val) (q := 0) (dd := some d) .z hi hx h0 (by rw [hdv_len hb]; exact h1) (by rw [hz]; rfl) (by rw [hz]; rfl) ?_ a w e0 h3
    rw [hval]
    simp [partOf, hi, ha, Fl.val]
  · refine sat.hole.2 ⟨bs, ⟨hb, hbi⟩, ?_⟩
    have fr : Frt (own e 1 A xss.length c (hdrs bs xss) :: (inns F ei bs xss ++ l')) (row F ei bs[i.toNat].1 (gt xss i).length bs[i.toNat].2 (gt xss i)) (own e 1 A xss.length c (hdrs bs xss) :: ((inns F ei bs xss).eraseIdx i.toNat ++ l')) := .s (frt_erase (inns_get hbi hgx))
    have fr2 : Frt (own e 1 A xss.length c (hdrs bs xss) :: ((inns F ei bs xss).eraseIdx i.toNat ++ row F ei bs[i.toNat].1 (gt xss i).length bs[i.toNat].2 (gt xss i) :: l')) (row F ei bs[i.toNat].1 (gt xss i).length bs[i.toNat].2 (gt xss i)) (own e 1 A xss.length c (hdrs bs xss) :: ((inns F ei bs xss).eraseIdx i.toNat ++ l')) := .s (frt_app .z)
    exact (h2.frt fr).back fr2
/-- A row is put in: its header is written. -/
theorem At.closeSt (hg : grd os env g = some true) {B B' : Option Addr} {cb k' cb' : Nat} {i : Int} {l1 : List HProp} (f : Frt l (hole F ei e A m c xss i B cb) l1) (f2 : Frt l1 (row F ei B' k' cb' ys) l') {x y : Operand} {ii : TI} (hi : ti P t = some ii) (hx : ev env x = some (elp A (i.toNat * 1))) (hy : ev env y = some (.slice B' k' cb'))
    (hz : ii.size = 1) (h0 : 0 ≤ i) (h1 : i < (m : Int)) (h : At n ds R env (rows F ei e A m c (Bw.st xss i ys) :: l') (wpList P os.toArray Q rest)) :
    At n ds R env l (wpList P os.toArray Q (⟨none, .store t x y, ty, pos, af, g⟩ :: rest)) := fun a w e0 hs => by
  have hs1 := hs.frt f
  have hk : ys.length = k' := let ⟨_, o, _⟩ := (hs1.drop.frt f2).head; row_len o
  subst hk
  obtain ⟨bs, ⟨hb, hbi⟩, h2⟩ := sat.hole.1 hs1
  have hm : xss.length = m := by
    obtain ⟨_, o, _⟩ := h2.head
    have := o.1
    rwa [hdrs_len hb, Nat.mul_one] at this
  subst hm
  have fr : Frt (own e 1 A xss.length c (hdrs bs xss) :: ((inns F ei bs xss).eraseIdx i.toNat ++ l1)) (row F ei B' ys.length cb' ys) (own e 1 A xss.length c (hdrs bs xss) :: ((inns F ei bs xss).eraseIdx i.toNat ++ l')) := .s (frt_app f2)
  have h3 := h2.frt fr
  rw [own_hdv, ← hdv_len hb] at h3
  have hlt : i.toNat < bs.length := by omega
  refine At.stOwn (F := Fl.val) (q := 0) (z := ⟨.slice B' ys.length cb', rfl⟩) (.s .z) hg hi hx hy h0 (by rw [hdv_len hb]; exact h1) rfl (by rw [hz]; rfl) (.c .n) ?_ a w e0 h3
  intro a w e0 hs4
  refine h a w e0 (sat.rows.2 ⟨bs.set i.toNat (B', cb'), by simp [Bw.st, hb], ?_⟩)
  have hst : Bw.st (hdv bs xss) i ⟨.slice B' ys.length cb', rfl⟩ = hdv (bs.set i.toNat (B', cb')) (Bw.st xss i ys) := by
    unfold Bw.st
    exact (hdv_set (b := (B', cb')) (xs := ys)).symm
  rw [hst, ← own_hdv, hdv_len hb] at hs4
  have hin : inns F ei (bs.set i.toNat (B', cb')) (Bw.st xss i ys) = (inns F ei bs xss).set i.toNat (row F ei B' ys.length cb' ys) := inns_set (b := (B', cb'))
  rw [hin]
  have hil : (inns F ei bs xss).length = xss.length := by simp [inns, hb]
  have fr3 : Frt ((inns F ei bs xss).set i.toNat (row F ei B' ys.length cb' ys) ++ l') (row F ei B' ys.length cb' ys) ((inns F ei bs xss).eraseIdx i.toNat ++ l') := by
    have h5 := frt_erase (l := l') (L := (inns F ei bs xss).set i.toNat (row F ei B' ys.length cb' ys)) (i := i.toNat) (c := row F ei B' ys.length cb' ys) (by
      rw [List.getElem?_set, if_pos rfl, if_pos (by rw [hil]; omega)])
    rwa [erase_set] at h5
  have fr4 : Frt (own e 1 A xss.length c (hdrs (bs.set i.toNat (B', cb')) (Bw.st xss i ys)) :: ((inns F ei bs xss).set i.toNat (row F ei B' ys.length cb' ys) ++ l')) (row F ei B' ys.length cb' ys) (own e 1 A xss.length c (hdrs (bs.set i.toNat (B', cb')) (Bw.st xss i ys)) :: ((inns F ei bs xss).eraseIdx i.toNat ++ l')) := .s fr3
  exact (hs4.frt (.s .z)).back fr4
/-! ### Addresses of elements -/
theorem Y.nc {x : Operand} {k : Nat} (hA : ∃ ad, A = some ad) (hx : ev env x = some (elp A k)) : Y P n ds R env l ⟨dd, .nilCheck x, ty, pos, af, g⟩ (elp A k) := fun a w e0 hs => by
  obtain ⟨ad, rfl⟩ := hA
  simp [execOp, e0.ev hx, elp]
theorem sat_some {xs : List α} {w : World} (f : Frt l (row F e A m c xs) l') [Inhabited α] {i : Int} (h0 : 0 ≤ i) (h1 : i < (m : Int)) (hs : sat R l w) : ∃ ad, A = some ad := by
  have hs1 := hs.frt f
  have hm : xs.length = m := let ⟨_, o, _⟩ := hs1.head; row_len o
  subst hm
  exact sat_row_some hs1 h0 h1
theorem Y.ncOwn [Inhabited α] {xs : List α} {x : Operand} {k : Nat} (f : Frt l (row F e A m c xs) l') {i : Int} (h0 : 0 ≤ i) (h1 : i < (m : Int)) (hx : ev env x = some (elp A k)) : Y P n ds R env l ⟨dd, .nilCheck x, ty, pos, af, g⟩ (elp A k) := fun a w e0 hs =>
  Y.nc (sat_some f h0 h1 hs) hx a w e0 hs
theorem Y.faOwn [Inhabited α] {xs : List α} {s : Nat} {fi k off : Nat} {ft : Nat} {fs : List (Nat × Nat)} {x : Operand} {ii j : TI} (f : Frt l (row F e A m c xs) l') {i : Int} (h0 : 0 ≤ i) (h1 : i < (m : Int)) (hi : ti P s = some ii) (hk : ii.k = .struct fs) (hf : fs[fi]? = some (ft, off)) (hj : ti P ft = some j) (hz : Nat.beq j.size 0 = false)
    (hx : ev env x = some (elp A k)) : Y P n ds R env l ⟨dd, .fieldAddr s x fi, ty, pos, af, g⟩ (elp A (k + off)) := fun a w e0 hs =>
  Y.fa (sat_some f h0 h1 hs) hi hk hf hj hz hx a w e0 hs
theorem At.of {env' : List (Nat × Value)} (h : At n ds R env' l K) (s : SubEnv env env') : At n ds R env l K := At.sub s h
theorem At.Still.of {env' : List (Nat × Value)} (h : At.Still P n ds R env' l os rest K) (s : SubEnv env env') : At.Still P n ds R env l os rest K := At.Still.sub s h
theorem At.Quiet.of {env' : List (Nat × Value)} (h : At.Quiet P n ds R env' l os rest K) (s : SubEnv env env') : At.Quiet P n ds R env l os rest K := At.Quiet.sub s h
/-! ### Results, some of them in memory -/
def RV (P : Program) (n : Nat) (R : Res) (env : List (Nat × Value)) (l : List HProp) (r : List ResultVar) (vs : List Value) : Prop := ∀ a w, Env n [] env a → sat R l w → (r.mapM (resF a.tmps)).run P w = .ok vs w
theorem RV.nil : RV P n R env l [] [] := fun a w e hs => rfl
theorem RV.tmp {t : Nat} {v : Value} {r : List ResultVar} {vs : List Value} (hv : look env t = some v) (h : RV P n R env l r vs) : RV P n R env l (.tmp t :: r) (v :: vs) := fun a w e hs => by
  have h1 : a.tmps.getD t undef = v := e.get _ _ hv
  simp only [List.mapM_cons, resF, h1, Sem.run_bind, Sem.run_pure, Result.andThen, h a w e hs]
theorem RV.cell {b t blk off e : Nat} {i : TI} {cs : List Value} {v : Value} {r : List ResultVar} {vs : List Value} (hb : look env b = some (.pointer (some ⟨blk, off, none⟩))) (hi : ti P t = some i) (f : Frt l (pt blk (.cells cs.toArray e)) l')
    (hl : Nat.ble (off + i.size) cs.length = true) (hz : Nat.blt 0 i.size = true) (hv : partOf P t off cs = some v) (h : RV P n R env l r vs) : RV P n R env l (.cell b t :: r) (v :: vs) := fun a w e hs => by
  have hbk := (hs.frt f).pt
  have hl' : off + i.size ≤ cs.length := by simpa using hl
  have := run_loadVar_cells (P := P) (w := w) (a := ⟨blk, off, none⟩) (cs := (cs.drop off).take i.size) (v := v) hi (by simp; omega) (fun j u hu => by
    rw [add_lit, cell_of hbk]; exact drop_take_get hu) (partOf_cut hi hz hv)
  have h1 : a.tmps.getD b undef = .pointer (some ⟨blk, off, none⟩) := e.get _ _ hb
  simp only [List.mapM_cons, resF, h1, asAddr, Sem.run_bind, Sem.run_pure, Result.andThen, this, h a w e hs]
theorem At.resM {fn : Func} {post : Post} {x : Exit} {r : List ResultVar} {vs : List Value} (hx : x = .ret ∨ x = .normal) (hr : fn.results = r.toArray) (hv : RV P n R env l r vs) (k : At n [] R env l (fun a w => ∃ l', post (resT vs) l' ∧ sat R l' w)) : At n [] R env l (PostB P fn R post x) :=
  At.fin hx fun a w e hs => by
    obtain ⟨l2, hp, hs'⟩ := k a w e hs
    refine ⟨_, l2, ?_, hp, hs'⟩
    have := hv a w e hs
    rw [results_eq, hr, List.mapM_toArray]
    simp only [Sem.run_bind, Sem.run_map, this, Result.andThen, Sem.run_pure]
    cases vs with
    | nil => rfl
    | cons v vs =>
      cases vs with
      | nil => rfl
      | cons u vs => simp [resT]
theorem RdS.isNil {T : Rep α} {H : PHeap} {xs : List α} (h : RdS T H none xs) : xs = [] := by
  cases xs with
  | nil => rfl
  | cons x xs => obtain ⟨ad, _, he, _⟩ := h 0 x rfl; cases he
theorem At.H.joinK {X : Type} {S : World → Prop} {fuel : Nat} {listed : Array Bool} (E : X → List (Nat × Value)) (L : X → List HProp) (I : X → Prop) (J : ∀ x, I x → At n ds R (E x) (L x) K)
    (h : (∀ x, I x → At n ds R (E x) (L x) K) → At.H P n ds R env l os S fuel listed K) : At.H P n ds R env l os S fuel listed K := h J
end
end Go.Bw
