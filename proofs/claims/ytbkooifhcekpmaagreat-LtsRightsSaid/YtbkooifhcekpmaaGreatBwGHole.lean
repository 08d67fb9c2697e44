/- A row of structs that hold slices, one of its elements taken apart for a while. Conditions: none. -/
import Derived.Test.YtbkooifhcekpmaaGreatBwGrow
import Derived.Test.YtbkooifhcekpmaaGreatBwSpare
set_option linter.unusedVariables false
set_option linter.unusedSimpArgs false
set_option linter.unusedSectionVars false
namespace Go.Bw
open Go Go.RowKit

section
variable {α : Type}
def ghole (T : Ow α) (e : Nat) (A : Option Addr) (n c : Nat) (xs : List α) (i : Int) (cs : List Value) : HProp := fun h =>
  ∃ css : List (Raw T.sz), (fun h => (css.length = xs.length ∧ (css[i.toNat]?).map (·.1) = some cs) ∧ stars (row (Fl.raw T.sz T.pos) e A n c css :: (gins T xs css).eraseIdx i.toNat) h) h
theorem sat.ghole {R : Res} {T : Ow α} {e : Nat} {A : Option Addr} {n c : Nat} {xs : List α} {i : Int} {cs : List Value} {l : List HProp} {w : World} :
    sat R (Bw.ghole T e A n c xs i cs :: l) w ↔ ∃ css : List (Raw T.sz), (css.length = xs.length ∧ (css[i.toNat]?).map (·.1) = some cs) ∧ sat R (row (Fl.raw T.sz T.pos) e A n c css :: ((gins T xs css).eraseIdx i.toNat ++ l)) w := by
  unfold Bw.ghole
  rw [sat.ex]
  constructor
  · rintro ⟨bs, h⟩
    have hb := let ⟨_, o, _⟩ := h.head; o.1
    exact ⟨bs, hb, sat.flat.1 (h.imp fun h o => o.2)⟩
  · rintro ⟨bs, hb, h⟩
    exact ⟨bs, (sat.flat.2 h).imp fun h o => ⟨hb, o⟩⟩
theorem gins_set {T : Ow α} {x : α} {r : Raw T.sz} : ∀ {xs : List α} {css : List (Raw T.sz)} {i : Nat}, gins T (xs.set i x) (css.set i r) = (gins T xs css).set i (T.own x r.1)
  | [], _, _ => by simp [gins]
  | _ :: _, [], _ => by simp [gins]
  | a :: xs, b :: css, 0 => by simp [gins]
  | a :: xs, b :: css, i + 1 => by
    have := gins_set (T := T) (x := x) (r := r) (xs := xs) (css := css) (i := i)
    simpa [gins] using this
theorem gins_erase {T : Ow α} {r : Raw T.sz} : ∀ {xs : List α} {css : List (Raw T.sz)} {i : Nat}, (gins T xs (css.set i r)).eraseIdx i = (gins T xs css).eraseIdx i
  | [], _, _ => by simp [gins]
  | _ :: _, [], _ => by simp [gins]
  | a :: xs, b :: css, 0 => by simp [gins]
  | a :: xs, b :: css, i + 1 => by
    have := gins_erase (T := T) (r := r) (xs := xs) (css := css) (i := i)
    simpa [gins] using this
end
section
variable {P : Program} [Tys P] {os : List Oper} {Q : Exit → Act → World → Prop} {rest : List Oper} {n : Nat} {ds : List Deferred} {R : Res} {env : List (Nat × Value)} {l l' : List HProp}
variable {d ty : Nat} {pos : String} {af : Array Edge} {g : Option (Nat × Bool)} {α : Type} {T : Ow α} {e t : Nat} {A : Option Addr} {c m : Nat} {xs : List α} {cs : List Value} {K : Act → World → Prop} {dd : Option Nat} {i : Int}
/-- One is taken apart. -/
theorem At.openGrow [Inhabited α] (f : Frt l (grow T e A m c xs) l') (h0 : 0 ≤ i) (h1 : i < (m : Int)) (h : ∀ cs, At n ds R env (ghole T e A m c xs i cs :: T.own (gt xs i) cs :: l') K) : At n ds R env l K := fun a w e0 hs => by
  have hs1 := hs.frt f
  have hm : xs.length = m := let ⟨_, o, _⟩ := hs1.head; (grow_len o).1
  subst hm
  obtain ⟨css, hb, h2⟩ := sat.grow.1 hs1
  have hlt : i.toNat < css.length := by omega
  have hbi : css[i.toNat]? = some css[i.toNat] := List.getElem?_eq_getElem hlt
  refine h css[i.toNat].1 a w e0 (sat.ghole.2 ⟨css, ⟨hb, by rw [hbi]; rfl⟩, ?_⟩)
  have fr : Frt (row (Fl.raw T.sz T.pos) e A xs.length c css :: (gins T xs css ++ l')) (T.own (gt xs i) css[i.toNat].1) (row (Fl.raw T.sz T.pos) e A xs.length c css :: ((gins T xs css).eraseIdx i.toNat ++ l')) := .s (frt_erase (gins_get (gt_some h0 h1) hbi))
  have fr2 : Frt (row (Fl.raw T.sz T.pos) e A xs.length c css :: ((gins T xs css).eraseIdx i.toNat ++ T.own (gt xs i) css[i.toNat].1 :: l')) (T.own (gt xs i) css[i.toNat].1) (row (Fl.raw T.sz T.pos) e A xs.length c css :: ((gins T xs css).eraseIdx i.toNat ++ l')) := .s (frt_app .z)
  exact (h2.frt fr).back fr2
/-- It is put together. -/
theorem At.closeGrow {L M : List HProp} {z : α} (hl : l = ghole T e A m c xs i cs :: M) (ent : Ent L (T.own z cs)) (hM : M = L ++ l') (h : At n ds R env (grow T e A m c (Bw.st xs i z) :: l') K) : At n ds R env l K := fun a w e0 hs => by
  subst hl hM
  obtain ⟨css, ⟨hb, hbi⟩, h2⟩ := sat.ghole.1 hs
  obtain ⟨r, hr, rfl⟩ := Option.map_eq_some_iff.1 hbi
  have hlt : i.toNat < css.length := (List.getElem?_eq_some_iff.1 hr).1
  refine h a w e0 (sat.grow.2 ⟨css, by simp [Bw.st, hb], ?_⟩)
  have h3 : sat R (row (Fl.raw T.sz T.pos) e A m c css :: ((gins T xs css).eraseIdx i.toNat ++ T.own z r.1 :: l')) w := sat.tail (M := row (Fl.raw T.sz T.pos) e A m c css :: (gins T xs css).eraseIdx i.toNat) (fun h s => ent_stars ent s) h2
  have hset : gins T (Bw.st xs i z) css = (gins T xs css).set i.toNat (T.own z r.1) := by
    have := gins_set (T := T) (x := z) (r := r) (xs := xs) (css := css) (i := i.toNat)
    have he : css.set i.toNat r = css := by
      apply List.ext_getElem?
      intro j
      rw [List.getElem?_set]
      split
      · rename_i hj; subst hj; simp [hlt, hr]
        exact (List.getElem?_eq_some_iff.1 hr).2.symm
      · rfl
    rw [he] at this
    exact this
  have fr : Frt (row (Fl.raw T.sz T.pos) e A m c css :: ((gins T xs css).eraseIdx i.toNat ++ T.own z r.1 :: l')) (T.own z r.1) (row (Fl.raw T.sz T.pos) e A m c css :: ((gins T xs css).eraseIdx i.toNat ++ l')) := .s (frt_app .z)
  have hlen : i.toNat < (gins T xs css).length := by simp [gins]; omega
  have fr2 : Frt (row (Fl.raw T.sz T.pos) e A m c css :: (gins T (Bw.st xs i z) css ++ l')) (T.own z r.1) (row (Fl.raw T.sz T.pos) e A m c css :: ((gins T xs css).eraseIdx i.toNat ++ l')) := .s (by
    have := frt_erase (L := (gins T xs css).set i.toNat (T.own z r.1)) (i := i.toNat) (c := T.own z r.1) (l := l') (by simp [hlen])
    rw [erase_set] at this
    rw [hset]
    exact this)
  exact (h3.frt fr).back fr2
theorem ghole_len {w : World} (f : Frt l (ghole T e A m c xs i cs) l') (hs : sat R l w) : xs.length = m := by
  obtain ⟨css, ⟨hb, _⟩, h2⟩ := sat.ghole.1 (hs.frt f)
  have : css.length = m := let ⟨_, o, _⟩ := h2.head; row_len o
  omega
theorem Y.ixGHole (f : Frt l (ghole T e A m c xs i cs) l') {x y : Operand} {j : Int} {k : IntKind} {ii jj : TI} (hi : ti P t = some ii) (hk : ii.k = .slice e) (hx : ev env x = some (.slice A m c)) (hy : ev env y = some (.int k j)) (hj : ti P e = some jj) (hjs : jj.size = T.sz) (h0 : 0 ≤ j) (h1 : j < (m : Int)) :
    Y P n ds R env l ⟨dd, .indexAddr t x y, ty, pos, af, g⟩ (elp A (j.toNat * T.sz)) := fun a w e0 hs => by
  obtain ⟨css, ⟨hb, _⟩, h2⟩ := sat.ghole.1 (hs.frt f)
  have hm : css.length = m := let ⟨_, o, _⟩ := h2.head; row_len o
  subst hm
  exact Y.ixOwn (F := Fl.raw T.sz T.pos) .z hi hk hx hy hj hjs h0 h1 a w e0 h2
theorem Y.ixGrow (f : Frt l (grow T e A m c xs) l') {x y : Operand} {j : Int} {k : IntKind} {ii jj : TI} (hi : ti P t = some ii) (hk : ii.k = .slice e) (hx : ev env x = some (.slice A m c)) (hy : ev env y = some (.int k j)) (hj : ti P e = some jj) (hjs : jj.size = T.sz) (h0 : 0 ≤ j) (h1 : j < (m : Int)) :
    Y P n ds R env l ⟨dd, .indexAddr t x y, ty, pos, af, g⟩ (elp A (j.toNat * T.sz)) := fun a w e0 hs => by
  obtain ⟨css, hb, h2⟩ := sat.grow.1 (hs.frt f)
  have hm : css.length = m := let ⟨_, o, _⟩ := h2.head; row_len o
  subst hm
  exact Y.ixOwn (F := Fl.raw T.sz T.pos) .z hi hk hx hy hj hjs h0 h1 a w e0 h2
theorem sat_gsome {w : World} (f : Frt l (ghole T e A m c xs i cs) l') (h0 : 0 ≤ i) (h1 : i < (m : Int)) (hs : sat R l w) : ∃ ad, A = some ad := by
  obtain ⟨css, ⟨hb, _⟩, h2⟩ := sat.ghole.1 (hs.frt f)
  have hm : css.length = m := let ⟨_, o, _⟩ := h2.head; row_len o
  subst hm
  exact sat_row_some h2 h0 h1
theorem Y.faGHole {s fi k off ft : Nat} {fs : List (Nat × Nat)} {x : Operand} {ii j : TI} (f : Frt l (ghole T e A m c xs i cs) l') (h0 : 0 ≤ i) (h1 : i < (m : Int)) (hi : ti P s = some ii) (hk : ii.k = .struct fs) (hf : fs[fi]? = some (ft, off)) (hj : ti P ft = some j) (hz : Nat.beq j.size 0 = false)
    (hx : ev env x = some (elp A k)) : Y P n ds R env l ⟨dd, .fieldAddr s x fi, ty, pos, af, g⟩ (elp A (k + off)) := fun a w e0 hs =>
  Y.fa (sat_gsome f h0 h1 hs) hi hk hf hj hz hx a w e0 hs
/-- A field of it is read. -/
theorem Y.ldGHole (f : Frt l (ghole T e A m c xs i cs) l') {x : Operand} {q : Nat} {v : Value} {ii : TI} (hi : ti P t = some ii) (hx : ev env x = some (elp A (i.toNat * T.sz + q))) (h0 : 0 ≤ i) (h1 : i < (m : Int)) (hl : Nat.ble (q + ii.size) T.sz = true) (hz : Nat.blt 0 ii.size = true) (hv : partOf P t q cs = some v) :
    Y P n ds R env l ⟨dd, .load t x, ty, pos, af, g⟩ v := fun a w e0 hs => by
  obtain ⟨css, ⟨hb, hbi⟩, h2⟩ := sat.ghole.1 (hs.frt f)
  obtain ⟨r, hr, rfl⟩ := Option.map_eq_some_iff.1 hbi
  have hm : css.length = m := let ⟨_, o, _⟩ := h2.head; row_len o
  subst hm
  have hg : gt css i = r := by unfold gt; rw [List.getD_eq_getElem?_getD, hr]; rfl
  refine Y.ldOwn (F := Fl.raw T.sz T.pos) (q := q) (dd := dd) .z hi hx h0 h1 hl hz ?_ a w e0 h2
  rw [hg]
  exact hv
/-- A field of it is written. -/
theorem At.stGHole (hg : grd os env g = some true) (f : Frt l (ghole T e A m c xs i cs) l') {x y : Operand} {q : Nat} {v : Value} {vs cs' : List Value} {ii : TI} (hi : ti P t = some ii) (hx : ev env x = some (elp A (i.toNat * T.sz + q))) (hy : ev env y = some v)
    (h0 : 0 ≤ i) (h1 : i < (m : Int)) (hv : v.cells.toList = vs) (hs : Nat.beq vs.length ii.size = true) (p : Put cs q vs cs') (ho : vs.all (·.oneCell') = true)
    (h : At n ds R env (ghole T e A m c xs i cs' :: l') (wpList P os.toArray Q rest)) : At n ds R env l (wpList P os.toArray Q (⟨none, .store t x y, ty, pos, af, g⟩ :: rest)) := fun a w e0 hs0 => by
  obtain ⟨css, ⟨hb, hbi⟩, h2⟩ := sat.ghole.1 (hs0.frt f)
  obtain ⟨r, hr, rfl⟩ := Option.map_eq_some_iff.1 hbi
  have hm : css.length = m := let ⟨_, o, _⟩ := h2.head; row_len o
  subst hm
  have hlt : i.toNat < css.length := (List.getElem?_eq_some_iff.1 hr).1
  have hgt : gt css i = r := by unfold gt; rw [List.getD_eq_getElem?_getD, hr]; rfl
  obtain ⟨p1, p2⟩ := p.eq
  have hlen : cs'.length = T.sz := by
    rw [p2]
    have := r.2.1
    simp
    omega
  let r' : Raw T.sz := ⟨cs', hlen, fun u hu => by
    rw [p2] at hu
    rcases List.mem_append.1 hu with hu | hu
    · rcases List.mem_append.1 hu with hu | hu
      · exact r.2.2 u (List.mem_of_mem_take hu)
      · exact List.all_eq_true.1 ho u hu
    · exact r.2.2 u (List.mem_of_mem_drop hu)⟩
  refine At.st (F := Fl.raw T.sz T.pos) (z := r') hg .z hi hx hy h0 h1 hv hs (by rw [hgt]; exact p) ?_ a w e0 h2
  intro a w e0 hs3
  refine h a w e0 (sat.ghole.2 ⟨Bw.st css i r', ⟨by simp [Bw.st, hb], by simp [Bw.st, hlt]; rfl⟩, ?_⟩)
  have : (gins T xs (Bw.st css i r')).eraseIdx i.toNat = (gins T xs css).eraseIdx i.toNat := gins_erase
  rw [this]
  exact hs3
theorem At.ownSpl {β : Type} {F : Fl β} {e : Nat} {p : List β × List β} {cs : List Value} (f : Frt l ((Ow.spl F e).own p cs) l') (h : ∀ A c, cs = [.slice A p.1.length c] → At n ds R env (row F e A (p.1 ++ p.2).length c (p.1 ++ p.2) :: l') K) : At n ds R env l K := fun a w e0 hs => by
  obtain ⟨ok, k, ⟨h1, h2, ⟨A, c, e1, r⟩, s⟩, dR⟩ := hs.frt f
  exact h A c e1 a w e0 ⟨ok, k, ⟨h1, h2, r, s⟩, dR⟩
theorem At.ownSplV {β : Type} {F : Fl β} {e : Nat} {p : List β × List β} {cs : List Value} (f : Frt l ((Ow.spl F e).own p cs) l') (h : ∀ A c, cs = [.slice A ((p.1 ++ p.2).take p.1.length).length c] → At n ds R env (row F e A (p.1 ++ p.2).length c (p.1 ++ p.2) :: l') K) : At n ds R env l K :=
  At.ownSpl f fun A c hc => h A c (by rw [hc, List.take_left])
/-- .. its header's length told by itself. -/
theorem Ent.spn {β : Type} (F : Fl β) {e : Nat} {A : Option Addr} {n c k m : Nat} {zs : List β} (h : (zs.take k).length = m) : Ent [row F e A n c zs] ((Ow.spl F e).own (zs.take k, zs.drop k) [.slice A m c]) := by
  subst h
  exact Ent.spv F k
section
variable {β : Type} [Inhabited β] {F : Fl β} {ys : List β}
/-- Where an element lies, by a view of a row of the call's own. -/
theorem Y.ixView (f : Frt l (row F e A m c ys) l') {x y : Operand} {j : Int} {k : IntKind} {m' c' : Nat} {ii jj : TI} (hi : ti P t = some ii) (hk : ii.k = .slice e) (hx : ev env x = some (.slice A m' c')) (hy : ev env y = some (.int k j)) (hj : ti P e = some jj) (hjs : jj.size = F.sz) (h0 : 0 ≤ j) (h1 : j < (m' : Int)) (h2 : j < (m : Int)) :
    Y P n ds R env l ⟨dd, .indexAddr t x y, ty, pos, af, g⟩ (elp A (j.toNat * F.sz)) := fun a w e0 hs => by
  have hs1 := hs.frt f
  have hm : ys.length = m := let ⟨_, o, _⟩ := hs1.head; row_len o
  subst hm
  obtain ⟨ad, rfl⟩ := sat_row_some hs1 h0 h2
  simp only [execOp, e0.ev hx, e0.ev hy, Instr.indexAt, asIntOf, Sem.run_bind, Sem.run_pure, Result.andThen, run_underlying ((ti_ok hi).slice hk), Sem.run_ite, if_pos (show 0 ≤ j ∧ j < (m' : Int) from ⟨h0, h1⟩), (ti_ok hj).run_sizeOf, hjs, elp]
/-- A view cut anew, as far as is known what lies there. -/
theorem Y.slView (f : Frt l (row F e A m c ys) l') {x y : Operand} {k : Int} {ki : IntKind} {m' : Nat} {ii : TI} (hi : ti P t = some ii) (hk : ii.k = .slice e) {j : TI} (hj : ti P e = some j) (hx : ev env x = some (.slice A m' c)) (hy : ev env y = some (.int ki k)) (h0 : 0 ≤ k) (h1 : k ≤ (m : Int)) :
    Y P n ds R env l ⟨dd, .slice t x none (some y) none, ty, pos, af, g⟩ (.slice A (ys.take k.toNat).length c) := fun a w e0 hs => by
  obtain ⟨_, o, _⟩ := (hs.frt f).head
  have hm := row_len o
  subst hm
  exact Y.slFull (zs := ys) (row_le o) hi hk hj hx hy h0 h1 a w e0 hs
end
end
/-! ### Less told of what is read -/
def Rep.Le {α β : Type} (T : Rep α) (U : Rep β) (f : α → β) : Prop := T.sz = U.sz ∧ ∀ H x cs, T.K H x cs → U.K H (f x) cs
theorem Rep.Le.refl {α : Type} (T : Rep α) : Rep.Le T T id := ⟨rfl, fun _ _ _ h => h⟩
theorem Rep.Le.sp {α : Type} (T : Rep α) : Rep.Le T.sp T.slice (·.1) := ⟨rfl, fun H p cs ⟨A, c, h2, h3, h4⟩ => ⟨A, c, h2, by show p.1.length ≤ c; simp at h3; omega, h4.pre⟩⟩
theorem Rep.Le.pair {α β γ δ : Type} {T : Rep α} {U : Rep β} {T' : Rep γ} {U' : Rep δ} {f : α → β} {g : γ → δ} (h : Rep.Le T U f) (k : Rep.Le T' U' g) : Rep.Le (T.pair T') (U.pair U') (fun p => (f p.1, g p.2)) :=
  ⟨by show T.sz + T'.sz = U.sz + U'.sz; rw [h.1, k.1], fun H p cs ⟨c1, c2, e, a, b⟩ => ⟨c1, c2, e, h.2 _ _ _ a, k.2 _ _ _ b⟩⟩
theorem RdS.le {α β : Type} {T : Rep α} {U : Rep β} {f : α → β} (h : Rep.Le T U f) {H : PHeap} {A : Option Addr} {xs : List α} (hr : RdS T H A xs) : RdS U H A (xs.map f) := fun i x hx => by
  rw [List.getElem?_map] at hx
  obtain ⟨p, hp, rfl⟩ := Option.map_eq_some_iff.1 hx
  obtain ⟨ad, cs, h1, h2, h3⟩ := hr i p hp
  exact ⟨ad, cs, h1, h.2 _ _ _ h2, by rw [← h.1]; exact h3⟩
end Go.Bw
