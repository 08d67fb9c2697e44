/- Structs that hold slices: what a value of such a type owns; rows of such; a block that a pointer may lead to. Conditions: none. -/
import Derived.Test.YtbkooifhcekpmaaGreatBwIter
import Derived.Test.YtbkooifhcekpmaaGreatBwOpt
set_option linter.unusedVariables false
set_option linter.unusedSimpArgs false
set_option linter.unusedSectionVars false
namespace Go.Bw
open Go Go.RowKit

/-! ### How they are read -/
def Rep.pair {α β : Type} (T : Rep α) (U : Rep β) : Rep (α × β) := ⟨T.sz + U.sz, fun H p cs => ∃ c1 c2, cs = c1 ++ c2 ∧ T.K H p.1 c1 ∧ U.K H p.2 c2,
  fun ⟨c1, c2, h, h1, h2⟩ => by rw [h, List.length_append, T.len h1, U.len h2], fun s ⟨c1, c2, h, h1, h2⟩ => ⟨c1, c2, h, T.mono s h1, U.mono s h2⟩, Nat.add_pos_left T.pos _⟩
def Rep.iso {α β : Type} (T : Rep β) (f : α → β) : Rep α := ⟨T.sz, fun H x cs => T.K H (f x) cs, T.len, T.mono, T.pos⟩
/-- A field that lies q cells behind a value's beginning. -/
structure Prj {α β : Type} (T : Rep α) (q : Nat) (U : Rep β) (f : α → β) : Prop where
  fit : q + U.sz ≤ T.sz
  at_ : ∀ {H x cs}, T.K H x cs → ∃ cs', U.K H (f x) cs' ∧ ∀ j u, cs'[j]? = some u → cs[q + j]? = some u
theorem Prj.self {α : Type} (T : Rep α) : Prj T 0 T id := ⟨by simp, fun h => ⟨_, h, fun j u hu => by rw [Nat.zero_add]; exact hu⟩⟩
theorem Prj.fst {α β γ : Type} {T : Rep α} {V : Rep β} {U : Rep γ} {q : Nat} {f : α → γ} (p : Prj T q U f) : Prj (T.pair V) q U (fun x => f x.1) :=
  ⟨Nat.le_trans p.fit (Nat.le_add_right _ _), fun {H x cs} ⟨c1, c2, h, h1, h2⟩ => by
    obtain ⟨cs', a, b⟩ := p.at_ h1
    exact ⟨cs', a, fun j u hu => by subst h; have := b j u hu; rw [List.getElem?_append_left (List.getElem?_eq_some_iff.1 this).1]; exact this⟩⟩
theorem Prj.snd {α β γ : Type} {T : Rep α} {V : Rep β} {U : Rep γ} {q : Nat} {f : β → γ} (p : Prj V q U f) : Prj (T.pair V) (T.sz + q) U (fun x => f x.2) :=
  ⟨by have := p.fit; show T.sz + q + U.sz ≤ T.sz + V.sz; omega, fun {H x cs} ⟨c1, c2, h, h1, h2⟩ => by
    obtain ⟨cs', a, b⟩ := p.at_ h2
    exact ⟨cs', a, fun j u hu => by subst h; rw [List.getElem?_append_right (by rw [T.len h1]; omega), T.len h1, show T.sz + q + j - T.sz = q + j from by omega]; exact b j u hu⟩⟩
theorem Prj.iso {α β γ : Type} {T : Rep β} {U : Rep γ} {q : Nat} {f : β → γ} (g : α → β) (p : Prj T q U f) : Prj (T.iso g) q U (fun x => f (g x)) := ⟨p.fit, fun h => p.at_ h⟩
theorem RdA.part {H : PHeap} {a : Addr} {cs cs' : List Value} {q : Nat} (h : RdA H a cs) (p : ∀ j u, cs'[j]? = some u → cs[q + j]? = some u) : RdA H (a.add q) cs' := fun j u hu => by
  rw [addr_add_add]
  exact h (q + j) u (p j u hu)
section
variable {P : Program} [Tys P] {os : List Oper} {Q : Exit → Act → World → Prop} {rest : List Oper} {n : Nat} {ds : List Deferred} {R : Res} {env : List (Nat × Value)} {l l' : List HProp}
variable {d ty : Nat} {pos : String} {af : Array Edge} {g : Option (Nat × Bool)} {α β : Type} [Inhabited α] {T : Rep α} {F : Fl β} {e t : Nat} {A : Option Addr} {c m : Nat} {xs : List α} {K : Act → World → Prop}
/-- A field of a plain kind. -/
theorem Y.ldPrj {q : Nat} {f : α → β} (p : Prj T q F.rep f) (hr : RdS T R.heap A xs) (hm : xs.length = m) {x : Operand} {i : Int} {v : Value} {ii : TI} {dd : Option Nat} (hi : ti P t = some ii) (hx : ev env x = some (elp A (i.toNat * T.sz + q))) (h0 : 0 ≤ i) (h1 : i < (m : Int))
    (hl : Nat.beq ii.size F.sz = true) (hv : partOf P t 0 (F.enc (f (gt xs i))) = some v) :
    Y P n ds R env l ⟨dd, .load t x, ty, pos, af, g⟩ v := fun a w e0 hs => by
  subst hm
  obtain ⟨ad, cs, rfl, hk, hc⟩ := hr.at_ h0 h1
  obtain ⟨cs', hk', hp⟩ := p.at_ hk
  have he : cs' = F.enc (f (gt xs i)) := hk'
  have hsz : ii.size = F.sz := by simpa using hl
  have := run_loadVar_cells (P := P) (w := w) (a := ad.add (i.toNat * T.sz + q)) (cs := cs') (v := v) hi (by rw [he, F.len, hsz]) (fun j u hu => by
    have := (hc.part hp).cell (sat_sub hs) hu
    rw [addr_add_add, addr_add_add] at this
    rw [addr_add_add, Nat.add_assoc]
    exact this) (by rw [he]; exact hv)
  simp only [execOp, e0.ev hx, elp, Instr.loadAt, Instr.sureAddr, Sem.run_bind, Sem.run_pure, Result.andThen, this]
/-- A field that is a slice. -/
theorem RdS.prjSl {H0 : PHeap} {γ : Type} {V : Rep γ} {q : Nat} {f : α → List γ} (p : Prj T q V.slice f) (hr : RdS T H0 A xs) (sb : Sub H0 R.heap) (hm : xs.length = m) {i : Int} (h0 : 0 ≤ i) (h1 : i < (m : Int)) : ∃ B cb, (f (gt xs i)).length ≤ cb ∧ RdS V H0 B (f (gt xs i)) ∧
    ∀ {x : Operand} {ii : TI} {dd : Option Nat} {env : List (Nat × Value)} {l : List HProp} (hi : ti P t = some ii) (hx : ev env x = some (elp A (i.toNat * T.sz + q))) (hs1 : ii.size = 1) (hag : agg ii.k = false),
      Y P n ds R env l ⟨dd, .load t x, ty, pos, af, g⟩ (.slice B (f (gt xs i)).length cb) := by
  subst hm
  obtain ⟨ad, cs, rfl, hk, hc⟩ := hr.at_ h0 h1
  obtain ⟨cs', ⟨B, cb, h2, h3, h4⟩, hp⟩ := p.at_ hk
  refine ⟨B, cb, h3, h4, fun {x ii dd env l} hi hx hs1 hag a w e0 hs => ?_⟩
  subst h2
  have := run_loadVar_cells (P := P) (w := w) (a := ad.add (i.toNat * T.sz + q)) (cs := [.slice B (f (gt xs i)).length cb]) (v := .slice B (f (gt xs i)).length cb) hi (by rw [hs1]; rfl) (fun j u hu => by
    have := (hc.part hp).cell (sb.trans (sat_sub hs)) hu
    rw [addr_add_add, addr_add_add] at this
    rw [addr_add_add, Nat.add_assoc]
    exact this) (by unfold partOf; rw [hi]; simp [hag])
  simp only [execOp, e0.ev hx, elp, Instr.loadAt, Instr.sureAddr, Sem.run_bind, Sem.run_pure, Result.andThen, this]
/-- A whole element. -/
theorem RdS.whole {H0 : PHeap} (hr : RdS T H0 A xs) (sb : Sub H0 R.heap) (hm : xs.length = m) {i : Int} (h0 : 0 ≤ i) (h1 : i < (m : Int)) : ∃ cs, T.K H0 (gt xs i) cs ∧
    ∀ {x : Operand} {ii : TI} {dd : Option Nat} {env : List (Nat × Value)} {l : List HProp} (hi : ti P t = some ii) (hx : ev env x = some (elp A (i.toNat * T.sz))) (hs1 : ii.size = T.sz) (hag : agg ii.k = true),
      Y P n ds R env l ⟨dd, .load t x, ty, pos, af, g⟩ (.agg cs.toArray) := by
  subst hm
  obtain ⟨ad, cs, rfl, hk, hc⟩ := hr.at_ h0 h1
  refine ⟨cs, hk, fun {x ii dd env l} hi hx hs1 hag a w e0 hs => ?_⟩
  have := run_loadVar_cells (P := P) (w := w) (a := ad.add (i.toNat * T.sz)) (cs := cs) (v := .agg cs.toArray) hi (by rw [hs1]; exact T.len hk) (fun j u hu => hc.cell (sb.trans (sat_sub hs)) hu) (by
    unfold partOf
    rw [hi]
    simp only [hag, List.drop_zero]
    rw [List.take_of_length_le (by rw [hs1, T.len hk]; exact Nat.le_refl _)])
  simp only [execOp, e0.ev hx, elp, Instr.loadAt, Instr.sureAddr, Sem.run_bind, Sem.run_pure, Result.andThen, this]
end
/-! ### What is owned -/
structure Ow (α : Type) where
  sz : Nat
  own : α → List Value → HProp
  len : ∀ {x cs h}, own x cs h → cs.length = sz
  one : ∀ {x cs h}, own x cs h → ∀ u ∈ cs, u.oneCell' = true
  pos : 0 < sz
  rep : Rep α
  rsz : rep.sz = sz
  rd : ∀ {x cs h H}, own x cs h → Sub h H → rep.K H x cs
def Ow.fl {α : Type} (F : Fl α) : Ow α := ⟨F.sz, fun x cs _ => cs = F.enc x, fun h => by rw [h]; exact F.len _, fun h u hu => by rw [h] at hu; exact F.one _ u hu, F.pos, F.rep, rfl, fun h _ => h⟩
def Ow.sl {α : Type} (F : Fl α) (e : Nat) : Ow (List α) := ⟨1, fun xs cs h => ∃ A c, cs = [.slice A xs.length c] ∧ row F e A xs.length c xs h, fun ⟨_, _, h, _⟩ => by rw [h]; rfl, fun ⟨_, _, h, _⟩ u hu => by rw [h] at hu; simp at hu; subst hu; rfl, by decide, F.rep.slice, rfl,
  fun ⟨A, c, h, r⟩ s => ⟨A, c, h, row_le r, row_rd r s⟩⟩
/-- A slice with what lies behind it. -/
def Ow.spl {α : Type} (F : Fl α) (e : Nat) : Ow (List α × List α) := ⟨1, fun p cs h => ∃ A c, cs = [.slice A p.1.length c] ∧ row F e A (p.1 ++ p.2).length c (p.1 ++ p.2) h, fun ⟨_, _, h, _⟩ => by rw [h]; rfl, fun ⟨_, _, h, _⟩ u hu => by rw [h] at hu; simp at hu; subst hu; rfl, by decide, F.rep.sp, rfl,
  fun ⟨A, c, h, r⟩ s => ⟨A, c, h, row_le r, row_rd r s⟩⟩
def Ow.pair {α β : Type} (T : Ow α) (U : Ow β) : Ow (α × β) := ⟨T.sz + U.sz, fun p cs h => ∃ c1 c2, cs = c1 ++ c2 ∧ stars [T.own p.1 c1, U.own p.2 c2] h,
  fun ⟨c1, c2, e, h1, _, a, ⟨h3, _, b, _⟩, _⟩ => by rw [e, List.length_append, T.len a, U.len b],
  fun ⟨c1, c2, e, h1, _, a, ⟨h3, _, b, _⟩, _⟩ u hu => by rw [e] at hu; exact (List.mem_append.1 hu).elim (T.one a u) (U.one b u), Nat.add_pos_left T.pos _, T.rep.pair U.rep, by show T.rep.sz + U.rep.sz = _; rw [T.rsz, U.rsz],
  fun ⟨c1, c2, e, h1, h2, a, ⟨h3, _, b, _, _, s3, _⟩, _, s1, s2⟩ s => ⟨c1, c2, e, T.rd a (s1.trans s), U.rd b (s3.trans (s2.trans s))⟩⟩
def Ow.iso {α β : Type} (T : Ow β) (f : α → β) : Ow α := ⟨T.sz, fun x cs h => T.own (f x) cs h, T.len, T.one, T.pos, T.rep.iso f, T.rsz, T.rd⟩
/-- What there is makes a value. -/
def Ent (L : List HProp) (c : HProp) : Prop := ∀ h, stars L h → c h
theorem Ent.fl {α : Type} (F : Fl α) {x : α} {cs : List Value} (h : cs = F.enc x) : Ent [] ((Ow.fl F).own x cs) := fun _ _ => h
theorem row_up {α : Type} {F : Fl α} {e : Nat} {A : Option Addr} {n c : Nat} {xs : List α} {h h' : PHeap} (o : row F e A n c xs h) (s : Sub h h') : row F e A n c xs h' := by
  obtain ⟨a, b⟩ := o
  refine ⟨a, b.imp id ?_⟩
  rintro ⟨g, cur, h1, h2, h3⟩
  exact ⟨g, cur, h1, s _ _ h2, h3⟩
theorem Ent.sl {α : Type} (F : Fl α) {e : Nat} {A : Option Addr} {n c : Nat} {xs : List α} : Ent [row F e A n c xs] ((Ow.sl F e).own xs [.slice A n c]) := fun h ⟨h1, _, a, _, _, s, _⟩ => by
  have hn := row_len a
  subst hn
  exact ⟨A, c, rfl, row_up a s⟩
theorem Ent.spv {α : Type} (F : Fl α) {e : Nat} {A : Option Addr} {n c : Nat} {zs : List α} (k : Nat) : Ent [row F e A n c zs] ((Ow.spl F e).own (zs.take k, zs.drop k) [.slice A (zs.take k).length c]) := fun h ⟨h1, _, a, _, _, s, _⟩ => by
  have hn := row_len a
  subst hn
  refine ⟨A, c, rfl, ?_⟩
  show row F e A (zs.take k ++ zs.drop k).length c (zs.take k ++ zs.drop k) h
  rw [List.take_append_drop]
  exact row_up a s
theorem Ent.pair {α β : Type} {T : Ow α} {U : Ow β} {x : α} {y : β} {c1 c2 : List Value} {L1 L2 : List HProp} (a : Ent L1 (T.own x c1)) (b : Ent L2 (U.own y c2)) : Ent (L1 ++ L2) ((T.pair U).own (x, y) (c1 ++ c2)) := fun h s => by
  obtain ⟨h1, h2, s1, s2, d, t1, t2⟩ := stars_append.1 s
  exact ⟨c1, c2, rfl, h1, h2, a _ s1, ⟨h2, fun _ => none, b _ s2, trivial, (fun _ _ _ _ e => by cases e), Sub.refl _, (fun _ _ e => by cases e)⟩, d, t1, t2⟩
end Go.Bw
