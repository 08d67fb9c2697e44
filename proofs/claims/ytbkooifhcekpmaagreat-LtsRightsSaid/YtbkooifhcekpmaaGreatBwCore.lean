/- The words by which the machine's side of a proof is told: partial heaps, chunks, frames as tables of slots, and one rule for each kind of operation. Conditions: none. -/
import Derived.WalkKit
import Derived.OrdersHeld
import Derived.KernelRfl
import Derived.Laws.MakeOwn
import Derived.Laws.OwnMore
import Derived.Deep.Draws
set_option linter.unusedVariables false
set_option linter.unusedSimpArgs false
set_option linter.unusedSectionVars false
namespace Go.Bw
open Go Go.RowKit

/-! ### Partial heaps and chunks -/
abbrev PHeap := Nat → Option Obj
abbrev HProp := PHeap → Prop
structure Res where
  heap : PHeap
  os : Os
  tape : Nat → Question → Nat
  output : Array (Nat × ByteArray)
  drawn : Nat
/-- Who runs draws no less. -/
theorem ask_drawn {α : Type} : ∀ (q : Ask α) (w : World), w.drawn ≤ (w.ask q).2.drawn
  | .done _, w => Nat.le_refl _
  | .ask what range k, w => by
    unfold World.ask
    dsimp only
    split
    · exact ask_drawn _ _
    · exact Nat.le_trans (Nat.le_succ _) (ask_drawn _ { w with drawn := w.drawn + 1 })
theorem sys_drawn (w : World) (c : Sys) : w.drawn ≤ (w.sys c).2.drawn := by
  unfold World.sys
  have := ask_drawn (Kernel.perform c w.os) w
  split <;> (rename_i h; first | exact Nat.le_refl _ | (rw [h] at this; exact this))
theorem view_drawn {p : Program} {w w' : World} {at_ k : Addr} {u : TypeId} {v : Value} {b : Bool} {x : List Addr} (h : w.viewStore p at_ u k v b = .ok (w', x)) : w'.drawn = w.drawn := by
  unfold World.viewStore at h
  simp only [bind, Except.bind, pure, Except.pure, throw, throwThe, MonadExceptOf.throw, MonadExcept.throw, instMonadExceptOfMonadExceptOf] at h
  repeat' (split at h)
  all_goals (first | (cases h; rfl) | cases h)
theorem run_drawn {α : Type} {P : Program} : ∀ (s : Sem α) {w w' : World} {a : α}, s.run P w = .ok a w' → w.drawn ≤ w'.drawn := by
  intro s
  induction s with
  | pure a => intro w w' x h; cases h; exact Nat.le_refl _
  | load m a k ih =>
    intro w w' x h
    simp only [Sem.run] at h
    split at h
    · exact ih _ h
    · split at h
      · exact ih _ h
      · cases h
  | store m a v k ih =>
    intro w w' x h
    have go : ∀ (r : (match w.cell? a with
        | some _ => if w.frozen? a then Result.halt (.unsupported (.unsafePointer "a write to bytes that a string shares")) w else k.run P (w.setCell a v)
        | none => match w.farStore P a v (m == Mode.atomic) with
          | .ok (w, _) => k.run P w
          | .error h => .halt h w) = .ok x w'), w.drawn ≤ w'.drawn := fun r => by
      split at r
      · split at r
        · cases r
        · exact ih (w := w.setCell a v) r
      · split at r
        · rename_i w1 _ hf
          have : w1.drawn = w.drawn := by
            unfold World.farStore at hf
            split at hf
            · split at hf
              · rename_i r1 hv
                cases hf
                exact view_drawn hv
              · cases hf
            · cases hf
          rw [← this]; exact ih r
        · cases r
    cases v <;> first | exact go h | (simp [Sem.run] at h)
  | new o k ih => intro w w' x h; simp only [Sem.run] at h; exact ih _ (w := { w with heap := w.heap.push o }) h
  | shape r k ih => intro w w' x h; simp only [Sem.run] at h; exact ih _ h
  | freeze a n k ih =>
    intro w w' x h
    simp only [Sem.run] at h
    have := ih (w := w.freeze a n) h
    unfold World.freeze at this
    split at this <;> exact this
  | frozen a k ih => intro w w' x h; simp only [Sem.run] at h; exact ih _ h
  | getObj r k ih =>
    intro w w' x h
    simp only [Sem.run] at h
    split at h
    · cases h
    · exact ih _ h
    · cases h
  | setObj r o k ih =>
    intro w w' x h
    simp only [Sem.run] at h
    split at h
    · cases h
    · exact ih (w := { w with heap := w.heap.setIfInBounds r o }) h
    · cases h
  | choose q k ih =>
    intro w w' x h
    simp only [Sem.run] at h
    split at h
    · exact ih _ h
    · exact Nat.le_trans (Nat.le_succ _) (ih _ (w := { w with drawn := w.drawn + 1 }) h)
  | sys c k ih => intro w w' x h; simp only [Sem.run] at h; exact Nat.le_trans (sys_drawn w c) (ih _ h)
  | program k ih => intro w w' x h; simp only [Sem.run] at h; exact ih _ h
  | mark m k ih => intro w w' x h; simp only [Sem.run] at h; exact ih h
  | halt h => intro w w' x h; cases h
def Sub (h k : PHeap) : Prop := ∀ b o, h b = some o → k b = some o
def Disj (h k : PHeap) : Prop := ∀ b o o', h b = some o → k b = some o' → False
def uni (h k : PHeap) : PHeap := fun b => match h b with | some o => some o | none => k b
def wh (w : World) : PHeap := fun b => w.heap[b]?
theorem Sub.refl (h : PHeap) : Sub h h := fun _ _ e => e
theorem Sub.trans {h k m : PHeap} (a : Sub h k) (b : Sub k m) : Sub h m := fun x o e => b x o (a x o e)
theorem uni_some {h k : PHeap} {b : Nat} {o : Obj} (e : uni h k b = some o) : h b = some o ∨ k b = some o := by
  unfold uni at e
  cases hb : h b with
  | none => rw [hb] at e; exact .inr e
  | some x => rw [hb] at e; exact .inl e
theorem uni_left (h k : PHeap) : Sub h (uni h k) := fun b o e => by unfold uni; rw [e]
theorem uni_right {h k : PHeap} (d : Disj h k) : Sub k (uni h k) := fun b o e => by
  unfold uni
  cases hb : h b with
  | none => exact e
  | some x => exact (d b x o hb e).elim
theorem uni_sub {h k m : PHeap} (a : Sub h m) (b : Sub k m) : Sub (uni h k) m := fun x o e => (uni_some e).elim (a x o) (b x o)
theorem Disj.symm {h k : PHeap} (d : Disj h k) : Disj k h := fun b o o' e e' => d b o' o e' e
theorem Disj.sub {h k h' k' : PHeap} (d : Disj h k) (a : Sub h' h) (b : Sub k' k) : Disj h' k' := fun x o o' e e' => d x o o' (a x o e) (b x o' e')
theorem Disj.uni_l {h k m : PHeap} (a : Disj h m) (b : Disj k m) : Disj (uni h k) m := fun x o o' e e' => (uni_some e).elim (fun e => a x o o' e e') (fun e => b x o o' e e')
theorem Disj.uni_r {h k m : PHeap} (a : Disj m h) (b : Disj m k) : Disj m (uni h k) := (Disj.uni_l a.symm b.symm).symm

def stars : List HProp → HProp
  | [], _ => True
  | c :: l, h => ∃ h1 h2, c h1 ∧ stars l h2 ∧ Disj h1 h2 ∧ Sub h1 h ∧ Sub h2 h
theorem stars_sub : ∀ {l : List HProp} {h k : PHeap}, stars l h → Sub h k → stars l k
  | [], _, _, _, _ => trivial
  | _ :: _, _, _, ⟨h1, h2, a, b, d, s1, s2⟩, s => ⟨h1, h2, a, b, d, s1.trans s, s2.trans s⟩
inductive Frt : List HProp → HProp → List HProp → Prop
  | z {c l} : Frt (c :: l) c l
  | s {d l c l'} : Frt l c l' → Frt (d :: l) c (d :: l')
theorem stars_frt {l : List HProp} {c : HProp} {l' : List HProp} (f : Frt l c l') : ∀ {h}, stars l h → stars (c :: l') h := by
  induction f with
  | z => exact fun h => h
  | s f ih =>
    rintro h ⟨h1, h2, a, b, d, s1, s2⟩
    obtain ⟨k1, k2, a', b', d', t1, t2⟩ := ih b
    exact ⟨k1, uni h1 k2, a', ⟨h1, k2, a, b', d.sub (Sub.refl _) t2, uni_left _ _, uni_right (d.sub (Sub.refl _) t2)⟩,
      Disj.uni_r (d.symm.sub t1 (Sub.refl _)) d', t1.trans s2, uni_sub s1 (t2.trans s2)⟩

structure Ok (R : Res) (w : World) : Prop where
  sub : Sub R.heap (wh w)
  os : w.os = R.os
  tape : w.tape = R.tape
  output : w.output = R.output
  drawn : R.drawn ≤ w.drawn
def sat (R : Res) (l : List HProp) (w : World) : Prop := Ok R w ∧ ∃ h, stars l h ∧ Disj h R.heap ∧ Sub h (wh w)
theorem sat.frt {R : Res} {l : List HProp} {c : HProp} {l' : List HProp} {w : World} (f : Frt l c l') (h : sat R l w) : sat R (c :: l') w :=
  let ⟨o, k, a, b, d⟩ := h
  ⟨o, k, stars_frt f a, b, d⟩
theorem sat.drop {R : Res} {c : HProp} {l : List HProp} {w : World} (h : sat R (c :: l) w) : sat R l w :=
  let ⟨o, k, ⟨_, h2, _, b, _, _, s2⟩, d, s⟩ := h
  ⟨o, k, stars_sub b s2, d, s⟩
def emp : HProp := fun h => ∀ b, h b = none
theorem sat.emp {R : Res} {l : List HProp} {w : World} (h : sat R l w) : sat R (emp :: l) w :=
  let ⟨o, k, a, d, s⟩ := h
  ⟨o, k, ⟨fun _ => none, k, fun _ => rfl, a, (fun _ _ _ e => by cases e), (fun _ _ e => by cases e), Sub.refl _⟩, d, s⟩
theorem sat.upd {R : Res} {c : HProp} {l : List HProp} {w : World} (hs : sat R (c :: l) w) : ∃ h1, c h1 ∧ Sub h1 (wh w) ∧
    ∀ (c' : HProp) (h1' : PHeap) (w' : World), c' h1' → w'.os = w.os → w'.tape = w.tape → w'.output = w.output → w.drawn ≤ w'.drawn →
      (∀ b o, w.heap[b]? = some o → h1 b = none → w'.heap[b]? = some o) → Sub h1' (wh w') → (∀ b o, h1' b = some o → (∃ o', h1 b = some o') ∨ w.heap[b]? = none) → sat R (c' :: l) w' := by
  obtain ⟨ok, h, ⟨h1, h2, a, b, d, s1, s2⟩, dR, s⟩ := hs
  refine ⟨h1, a, s1.trans s, fun c' h1' w' a' e1 e2 e3 e4 keep sub' old => ?_⟩
  have d2 : Disj h1' h2 := fun x o o' e e' => by
    rcases old x o e with ⟨o1, e1⟩ | e1
    · exact d x o1 o' e1 e'
    · have := s x o' (s2 x o' e'); simp only [wh] at this; rw [e1] at this; cases this
  have d1 : Disj h1' R.heap := fun x o o' e e' => by
    rcases old x o e with ⟨o1, e1⟩ | e1
    · exact dR x o1 o' (s1 x o1 e1) e'
    · have := ok.sub x o' e'; simp only [wh] at this; rw [e1] at this; cases this
  have none1 : ∀ x o, h2 x = some o → h1 x = none := fun x o e => by
    cases hh : h1 x with
    | none => rfl
    | some y => exact (d x y o hh e).elim
  have noneR : ∀ x o, R.heap x = some o → h1 x = none := fun x o e => by
    cases hh : h1 x with
    | none => rfl
    | some y => exact (dR x y o (s1 x y hh) e).elim
  refine ⟨⟨fun x o e => keep x o (ok.sub x o e) (noneR x o e), e1.trans ok.os, e2.trans ok.tape, e3.trans ok.output, Nat.le_trans ok.drawn e4⟩,
    uni h1' h2, ⟨h1', h2, a', b, d2, uni_left _ _, uni_right d2⟩, Disj.uni_l d1 (dR.sub s2 (Sub.refl _)), uni_sub sub' fun x o e => keep x o (s x o (s2 x o e)) (none1 x o e)⟩

def pt (b : Nat) (o : Obj) : HProp := fun h => h b = some o
def single (b : Nat) (o : Obj) : PHeap := fun x => if x = b then some o else none
theorem single_eq {b x : Nat} {o o' : Obj} (h : single b o x = some o') : x = b ∧ o' = o := by
  unfold single at h
  split at h
  · rename_i e; exact ⟨e, (Option.some.inj h).symm⟩
  · cases h
theorem single_self (b : Nat) (o : Obj) : single b o b = some o := if_pos rfl
theorem sat.alloc {R : Res} {l : List HProp} {w : World} (h : sat R l w) (o : Obj) : sat R (pt w.heap.size o :: l) (w.alloc o) := by
  obtain ⟨h1, a, _, k⟩ := h.emp.upd
  refine k _ (single w.heap.size o) (w.alloc o) (by simp [pt, single]) rfl rfl rfl (Nat.le_refl _) (fun b o' e _ => ?_) (fun b o' e => ?_) (fun b o' e => .inr ?_)
  · rw [Below.heap_alloc _ _ _ (Array.getElem?_eq_some_iff.1 e).1]; exact e
  · obtain ⟨rfl, rfl⟩ := single_eq e; exact heap_alloc_new w _
  · obtain ⟨rfl, rfl⟩ := single_eq e; simp
theorem sat.same {R : Res} {l : List HProp} {w w' : World} (h : sat R l w) (e : w'.heap = w.heap) (e1 : w'.os = w.os) (e2 : w'.tape = w.tape) (e3 : w'.output = w.output) (e4 : w.drawn ≤ w'.drawn) : sat R l w' := by
  obtain ⟨ok, k, a, d, s⟩ := h
  have hw : wh w' = wh w := by unfold wh; rw [e]
  exact ⟨⟨hw ▸ ok.sub, e1.trans ok.os, e2.trans ok.tape, e3.trans ok.output, Nat.le_trans ok.drawn e4⟩, k, a, d, hw ▸ s⟩
theorem sat.drew {R : Res} {l : List HProp} {w : World} (h : sat R l w) : sat R l w.drew := h.same rfl rfl rfl rfl (Nat.le_succ _)
theorem sat.drewN {R : Res} {l : List HProp} {w : World} (h : sat R l w) (n : Nat) : sat R l (w.drewN n) := h.same rfl rfl rfl rfl (Nat.le_add_right _ _)
/-- What a chunk tells of the world. -/
theorem sat.head {R : Res} {c : HProp} {l : List HProp} {w : World} (h : sat R (c :: l) w) : ∃ h1, c h1 ∧ Sub h1 (wh w) := let ⟨h1, a, b, _⟩ := h.upd; ⟨h1, a, b⟩
theorem sat.pt {R : Res} {b : Nat} {o : Obj} {l : List HProp} {w : World} (h : sat R (pt b o :: l) w) : w.heap[b]? = some o := let ⟨h1, a, s⟩ := h.head; s b o a
/-- A block that is written anew. -/
theorem sat.modify {R : Res} {b : Nat} {o o' : Obj} {l : List HProp} {w w' : World} (h : sat R (Bw.pt b o :: l) w) (e1 : w'.os = w.os) (e2 : w'.tape = w.tape) (e3 : w'.output = w.output) (e4 : w.drawn ≤ w'.drawn)
    (hb : w'.heap[b]? = some o') (hk : ∀ x, x ≠ b → w'.heap[x]? = w.heap[x]?) : sat R (Bw.pt b o' :: l) w' := by
  obtain ⟨h1, a, s, k⟩ := h.upd
  refine k _ (single b o') w' (by simp [Bw.pt, single]) e1 e2 e3 e4 (fun x y e en => ?_) (fun x y e => ?_) (fun x y e => .inl ?_)
  · by_cases hx : x = b
    · subst hx; rw [show h1 x = some o from a] at en; cases en
    · rw [hk x hx]; exact e
  · obtain ⟨rfl, rfl⟩ := single_eq e; exact hb
  · obtain ⟨rfl, rfl⟩ := single_eq e; exact ⟨o, a⟩
/-- A chunk told otherwise. -/
theorem sat.imp {R : Res} {c c' : HProp} {l : List HProp} {w : World} (h : sat R (c :: l) w) (i : ∀ h, c h → c' h) : sat R (c' :: l) w :=
  let ⟨o, k, ⟨h1, h2, a, b⟩, d⟩ := h
  ⟨o, k, ⟨h1, h2, i _ a, b⟩, d⟩
/-- Frozen: what a chunk holds goes to what is read alone; and back. -/
def Res.add (R : Res) (h : PHeap) : Res := { R with heap := uni h R.heap }
theorem sat.freeze {R : Res} {c : HProp} {l : List HProp} {w : World} (h : sat R (c :: l) w) : ∃ h1, c h1 ∧ Disj h1 R.heap ∧ sat (R.add h1) l w := by
  obtain ⟨ok, k, ⟨h1, h2, a, b, d, s1, s2⟩, dR, s⟩ := h
  exact ⟨h1, a, dR.sub s1 (Sub.refl _), ⟨uni_sub (s1.trans s) ok.sub, ok.os, ok.tape, ok.output, ok.drawn⟩, h2, b, Disj.uni_r d.symm (dR.sub s2 (Sub.refl _)), s2.trans s⟩
theorem sat.thaw {R : Res} {c : HProp} {l : List HProp} {w : World} {h1 : PHeap} (a : c h1) (d : Disj h1 R.heap) (h : sat (R.add h1) l w) : sat R (c :: l) w := by
  obtain ⟨ok, k, b, dk, s⟩ := h
  have s1 : Sub h1 (wh w) := (uni_left h1 R.heap).trans ok.sub
  have dk1 : Disj h1 k := (dk.sub (Sub.refl _) (uni_left _ _)).symm
  exact ⟨⟨(uni_right d).trans ok.sub, ok.os, ok.tape, ok.output, ok.drawn⟩, uni h1 k, ⟨h1, k, a, b, dk1, uni_left _ _, uni_right dk1⟩, Disj.uni_l d (dk.sub (Sub.refl _) (uni_right d)), uni_sub s1 s⟩

/-! ### Frames as tables of slots -/
def look : List (Nat × Value) → Nat → Option Value
  | [], _ => none
  | (k, v) :: r, t => match Nat.beq k t with | true => some v | false => look r t
structure Env (n : Nat) (ds : List Deferred) (env : List (Nat × Value)) (a : Act) : Prop where
  size : a.tmps.size = n
  defs : a.defers = ds
  get : ∀ t v, look env t = some v → a.eval (.tmp t) = v
def ev (env : List (Nat × Value)) : Operand → Option Value
  | .tmp t => look env t
  | .const v => some v
  | .global g => some (.pointer (some ⟨g, 0, none⟩))
  | .func f => some (.func (.func f) #[] #[])
theorem Env.ev {n : Nat} {ds : List Deferred} {env : List (Nat × Value)} {a : Act} (h : Env n ds env a) {x : Operand} {v : Value} (e : Bw.ev env x = some v) : a.eval x = v := by
  cases x with
  | tmp t => exact h.get t v e
  | const u => exact Option.some.inj e
  | global g => exact Option.some.inj e
  | func f => exact Option.some.inj e
theorem Env.put {n : Nat} {ds : List Deferred} {env : List (Nat × Value)} {a : Act} (h : Env n ds env a) {d : Nat} (hd : Nat.blt d n = true) (v : Value) : Env n ds ((d, v) :: env) (a.put (some d) v) := by
  refine ⟨by simp [Act.put, h.size], h.defs, fun t u e => ?_⟩
  have hdn : d < a.tmps.size := by rw [h.size]; simp only [Nat.blt_eq] at hd; exact hd
  by_cases hdt : d = t
  · subst hdt
    have : look ((d, v) :: env) d = some v := by simp [look]
    rw [this] at e
    cases e
    show (a.tmps.setIfInBounds d v).getD d undef = v
    simp [hdn]
  · have : look ((d, v) :: env) t = look env t := by
      have hb : Nat.beq d t = false := by rw [← Bool.not_eq_true, Nat.beq_eq]; exact hdt
      simp [look, hb]
    rw [this] at e
    have := h.get t u e
    rw [← this]
    show (a.tmps.setIfInBounds d v).getD t undef = a.tmps.getD t undef
    simp [Array.getD_eq_getD_getElem?, hdt]
def SubEnv (env : List (Nat × Value)) : List (Nat × Value) → Prop
  | [] => True
  | (t, v) :: r => look env t = some v ∧ SubEnv env r
theorem SubEnv.look {env : List (Nat × Value)} : ∀ {env' : List (Nat × Value)}, SubEnv env env' → ∀ t v, Bw.look env' t = some v → Bw.look env t = some v
  | (k, u) :: r, h, t, v, e => by
    unfold Bw.look at e
    split at e
    · rename_i hb
      have : k = t := by simpa using hb
      subst this
      cases e
      exact h.1
    · exact h.2.look t v e
theorem Env.sub {n : Nat} {ds : List Deferred} {env env' : List (Nat × Value)} {a : Act} (h : Env n ds env a) (s : SubEnv env env') : Env n ds env' a := ⟨h.size, h.defs, fun t v e => h.get t v (s.look t v e)⟩

/-! ### The judgement -/
def At (n : Nat) (ds : List Deferred) (R : Res) (env : List (Nat × Value)) (l : List HProp) (K : Act → World → Prop) : Prop := ∀ a w, Env n ds env a → sat R l w → K a w
section
variable {P : Program} {ops : Array Oper} {Q : Exit → Act → World → Prop} {rest : List Oper} {n : Nat} {ds : List Deferred} {R : Res} {env : List (Nat × Value)} {l : List HProp} {K : Act → World → Prop}
theorem At.sub {env' : List (Nat × Value)} (s : SubEnv env env') (h : At n ds R env' l K) : At n ds R env l K := fun a w e hs => h a w (e.sub s) hs
theorem At.frt {c : HProp} {l' : List HProp} (f : Frt l c l') (h : At n ds R env (c :: l') K) : At n ds R env l K := fun a w e hs => h a w e (hs.frt f)
theorem At.drop {c : HProp} {l' : List HProp} (f : Frt l c l') (h : At n ds R env l' K) : At n ds R env l K := fun a w e hs => h a w e (hs.frt f).drop
theorem At.imp {c c' : HProp} {l' : List HProp} (i : ∀ h, c h → c' h) (h : At n ds R env (c' :: l') K) : At n ds R env (c :: l') K := fun a w e hs => h a w e (hs.imp i)
theorem At.seq {x y : Code} (h : At n ds R env l (x.wp P (Exit.then (y.wp P Q) Q))) : At n ds R env l ((Code.seq x y).wp P Q) := fun a w e hs => wp_seq (h a w e hs)
theorem At.region {id : Nat} {os : List Oper} (h : At n ds R env l (wpList P os.toArray Q os)) : At n ds R env l ((Code.region id os.toArray false).wp P Q) := fun a w e hs => wp_region_lit (h a w e hs)
theorem At.nil (h : At n ds R env l (Q .normal)) : At n ds R env l (wpList P ops Q []) := fun a w e hs => h a w e hs
theorem At.skip (h : At n ds R env l (Q .normal)) : At n ds R env l (Code.skip.wp P Q) := fun a w e hs => wp_skip (h a w e hs)
theorem At.exit {id : Nat} (h : At n ds R env l (Q (.exit id))) : At n ds R env l ((Code.exit id).wp P Q) := fun a w e hs => wp_exit (h a w e hs)
theorem At.ret (h : At n ds R env l (Q .ret)) : At n ds R env l (Code.ret.wp P Q) := fun a w e hs => wp_ret (h a w e hs)
theorem At.block {id : Nat} {c : Code} (h : At n ds R env l (c.wp P (Exit.inBlock id Q))) : At n ds R env l ((Code.block id c).wp P Q) := fun a w e hs => wp_block (h a w e hs)
theorem At.cond {c : Operand} {x y : Code} {b : Bool} (hc : ev env c = some (.bool b)) (h : At n ds R env l ((bif b then x else y).wp P Q)) : At n ds R env l ((Code.cond c x y).wp P Q) := fun a w e hs =>
  wp_cond (e.ev hc) (by have := h a w e hs; cases b <;> exact this)
theorem At.condT {c : Operand} {x y : Code} {b : Bool} (hc : ev env c = some (.bool b)) (hb : b = true) (h : At n ds R env l (x.wp P Q)) : At n ds R env l ((Code.cond c x y).wp P Q) := fun a w e hs =>
  wp_cond (t := true) (by rw [e.ev hc, hb]) (h a w e hs)
theorem At.condF {c : Operand} {x y : Code} {b : Bool} (hc : ev env c = some (.bool b)) (hb : b = false) (h : At n ds R env l (y.wp P Q)) : At n ds R env l ((Code.cond c x y).wp P Q) := fun a w e hs =>
  wp_cond (t := false) (by rw [e.ev hc, hb]) (h a w e hs)
/-- A loop: 'x': what turns from round to round; 'm': how many rounds are left at most. -/
theorem At.loop {X : Type} {c : Code} (E : X → List (Nat × Value)) (L : X → List HProp) (I : Nat → X → Prop) (m : Nat) (x : X) (hx : I m x) (h0 : At n ds R env l (fun a w => Env n ds (E x) a ∧ sat R (L x) w))
    (round : ∀ m x, I m x → At n ds R (E x) (L x) (c.wp P (Exit.then (fun a w => ∃ m' x', m' < m ∧ I m' x' ∧ Env n ds (E x') a ∧ sat R (L x') w) Q))) : At n ds R env l ((Code.loop c).wp P Q) := by
  intro a w e hs
  have key : ∀ m x a w, I m x → Env n ds (E x) a → sat R (L x) w → ∀ b k cs, ∃ e a' w', Q e a' w' ∧ Arrives P (lone (b.at a (.code c :: .inLoop c :: k)) cs w) b k cs e a' w' := by
    intro m
    induction m using Nat.strongRecOn with
    | _ m ih =>
      intro x a w hI he hs b k cs
      obtain ⟨ex, a1, w1, hq, harr⟩ := round m x hI a w he hs b (.inLoop c :: k) cs
      cases ex with
      | normal =>
        obtain ⟨m', x', hlt, hI', he', hs'⟩ := hq
        obtain ⟨e2, a2, w2, hq2, harr2⟩ := ih m' hlt x' a1 w1 hI' he' hs' b k cs
        exact ⟨e2, a2, w2, hq2, .of_steps (Steps.trans harr (.one step_inLoop)) harr2⟩
      | exit id => exact ⟨_, a1, w1, hq, .pass (x := .inLoop c) rfl (fun _ _ => .inl (by simp)) harr⟩
      | goto l => exact ⟨_, a1, w1, hq, .pass (x := .inLoop c) rfl (fun _ _ => .inl (by simp)) harr⟩
      | ret => exact ⟨_, a1, w1, hq, .pass (x := .inLoop c) rfl (fun _ _ => .inl (by simp)) harr⟩
      | panic ch => exact ⟨_, a1, w1, hq, .pass (x := .inLoop c) rfl (fun _ _ => .inl (by simp)) harr⟩
      | outgrown => exact ⟨_, a1, w1, hq, .pass (x := .inLoop c) rfl (fun _ _ => .inl (by simp)) harr⟩
  obtain ⟨he, hs'⟩ := h0 a w e hs
  intro b k cs
  obtain ⟨e', a', w', hq, harr⟩ := key m x a w hx he hs' b k cs
  exact ⟨e', a', w', hq, .of_steps (.one step_loop) harr⟩

/-! ### One operation -/
theorem op_value {o : Oper} {d : Nat} {v : Value} {l' : List HProp} (hg : o.guard = none) (hdst : o.dst = some d) (hd : Nat.blt d n = true)
    (h : ∀ a w, Env n ds env a → sat R l w → ∃ w', (execOp a.eval o).run P w = .ok (.value v) w' ∧ sat R l' w')
    (k : At n ds R ((d, v) :: env) l' (wpList P ops Q rest)) : At n ds R env l (wpList P ops Q (o :: rest)) := fun a w e hs => by
  refine wpList_plain hg fun K hK => ?_
  obtain ⟨w', hr, hs'⟩ := h a w e hs
  unfold Oper.wp
  rw [hr]
  show K (a.put o.dst v) w'
  rw [hdst]
  exact hK _ _ (k _ _ (e.put hd v) hs')
theorem op_pure {o : Oper} {d : Nat} {v : Value} (hg : o.guard = none) (hdst : o.dst = some d) (hd : Nat.blt d n = true)
    (h : ∀ a w, Env n ds env a → sat R l w → (execOp a.eval o).run P w = .ok (.value v) w)
    (k : At n ds R ((d, v) :: env) l (wpList P ops Q rest)) : At n ds R env l (wpList P ops Q (o :: rest)) :=
  op_value hg hdst hd (fun a w e hs => ⟨w, h a w e hs, hs⟩) k
theorem op_skip {o : Oper} {l' : List HProp} (hg : o.guard = none) (hdst : o.dst = none)
    (h : ∀ a w, Env n ds env a → sat R l w → ∃ w', (execOp a.eval o).run P w = .ok .skip w' ∧ sat R l' w')
    (k : At n ds R env l' (wpList P ops Q rest)) : At n ds R env l (wpList P ops Q (o :: rest)) := fun a w e hs => by
  refine wpList_plain hg fun K hK => ?_
  obtain ⟨w', hr, hs'⟩ := h a w e hs
  unfold Oper.wp
  rw [hr]
  show K (a.put o.dst undef) w'
  rw [hdst]
  exact hK _ _ (k _ _ e hs')
end
end Go.Bw
