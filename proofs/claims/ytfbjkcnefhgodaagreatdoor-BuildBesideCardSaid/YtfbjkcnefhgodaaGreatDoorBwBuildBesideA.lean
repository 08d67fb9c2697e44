/- BuildBeside, part 1: walks and plain laws. Conditions: none. -/
import Derived.WalkKit
import Derived.OrdersHeld
import Derived.KernelRfl
import Derived.Laws.MakeOwn
import Derived.Laws.OwnMore
import Derived.Deep.Draws
import Derived.Deep.Quiet
import Derived.StillTail
import Derived.Maps.AppendAt
import Derived.LoopN
import Derived.Sort.OwnSortedInts
import Derived.Shelf.SortG.Plain
import Derived.Shelf.SortG.SortNone
import Derived.Shelf.SlSortCmp.NoneTotal
import Derived.Deep.Matrix
import Derived.Below
import Derived.Carry
import Derived.ChangeOld
import Derived.Deep.Strs
import Derived.OpenShut
import Derived.SizedLaws
import Derived.Laws.StructEq
import Derived.ChangeKeysEq
import Derived.Laws.Strings2
import Derived.Laws.Strings3
import Derived.Laws.Slices
import Derived.Lib.Bytealg
import Derived.ChangeArms
import Derived.DataReads
import Derived.Lib.SmallJoins
import Derived.Laws.CopyOwn
import Derived.Test.YtfbjkcnefhgodaaGreatDoorProg
import Derived.Ground.SlgnProg
import Derived.Ground.SlsfProg
set_option linter.unusedVariables false
set_option linter.unusedSimpArgs false
set_option linter.unusedSectionVars false
set_option maxRecDepth 100000
set_option maxHeartbeats 2000000
namespace Go.Bw
open Go Go.RowKit

abbrev PHeap := Nat → Option Obj
abbrev HProp := PHeap → Prop
structure Res where
 heap : PHeap
 os : Os
 tape : Nat → Question → Nat
 output : Array (Nat × ByteArray)
 drawn : Nat
theorem Q228 {α : Type} : ∀ (q : Ask α) (w : World), w.drawn ≤ (w.ask q).2.drawn
 | .done _, w => Nat.le_refl _
 | .ask what range k, w => by
  unfold World.ask
  dsimp only
  split
  ·exact Q228 _ _
  ·exact Nat.le_trans (Nat.le_succ _) (Q228 _ { w with drawn := w.drawn + 1 })
theorem sys_drawn (w : World) (c : Sys) : w.drawn ≤ (w.sys c).2.drawn := by
 unfold World.sys
 have := Q228 (Kernel.perform c w.os) w
 split <;> (rename_i h; first | exact Nat.le_refl _ | (rw [h] at this; exact this))
theorem Q314 {p : Program} {w w' : World} {at_ k : Addr} {u : TypeId} {v : Value} {b : Bool} {x : List Addr} (h : w.viewStore p at_ u k v b = .ok (w', x)) : w'.drawn = w.drawn := by
 unfold World.viewStore at h
 simp only [bind, Except.bind, pure, Except.pure, throw, throwThe, MonadExceptOf.throw, MonadExcept.throw, instMonadExceptOfMonadExceptOf] at h
 repeat' (split at h)
 all_goals (first | (cases h; rfl) | cases h)
theorem Q292 {α : Type} {P : Program} : ∀ (s : Sem α) {w w' : World} {a : α}, s.run P w = .ok a w' → w.drawn ≤ w'.drawn := by
 intro s
 induction s with
 | pure a => intro w w' x h; cases h; exact Nat.le_refl _
 | load m a k ih =>
  intro w w' x h
  simp only [Sem.run] at h
  split at h
  ·exact ih _ h
  ·split at h
   ·exact ih _ h
   ·cases h
 | store m a v k ih =>
  intro w w' x h
  have go : ∀ (r : (match w.cell? a with
   | some _ => if w.frozen? a then Result.halt (.unsupported (.unsafePointer "a write to bytes that a string shares")) w else k.run P (w.setCell a v)
   | none => match w.farStore P a v (m == Mode.atomic) with
    | .ok (w, _) => k.run P w
    | .error h => .halt h w) = .ok x w'), w.drawn ≤ w'.drawn := fun r => by
   split at r
   ·split at r
    ·cases r
    ·exact ih (w := w.setCell a v) r
   ·split at r
    ·rename_i w1 _ hf
     have : w1.drawn = w.drawn := by
      unfold World.farStore at hf
      split at hf
      ·split at hf
       ·rename_i r1 hv
        cases hf
        exact Q314 hv
       ·cases hf
      ·cases hf
     rw [← this]; exact ih r
    ·cases r
  cases v <;> first | exact go h | (simp [Sem.run] at h)
 | new o k ih => intro w w' x h; simp only [Sem.run] at h; exact ih _ (w := { w with heap := w.heap.push o }) h
 | shape r k ih => intro w w' x h; simp only [Sem.run] at h; exact ih _ h
 | freeze a n k ih =>
  intro w w' x h
  simp only [Sem.run] at h
  have := ih (w := w.freeze a n) h
  unfold World.freeze at this
  split at this <;> exact this
 | frozen a k ih => intro w w' x h; simp only [Sem.run] at h; exact ih _ h
 | getObj r k ih =>
  intro w w' x h
  simp only [Sem.run] at h
  split at h
  ·cases h
  ·exact ih _ h
  ·cases h
 | setObj r o k ih =>
  intro w w' x h
  simp only [Sem.run] at h
  split at h
  ·cases h
  ·exact ih (w := { w with heap := w.heap.setIfInBounds r o }) h
  ·cases h
 | choose q k ih =>
  intro w w' x h
  simp only [Sem.run] at h
  split at h
  ·exact ih _ h
  ·exact Nat.le_trans (Nat.le_succ _) (ih _ (w := { w with drawn := w.drawn + 1 }) h)
 | sys c k ih => intro w w' x h; simp only [Sem.run] at h; exact Nat.le_trans (sys_drawn w c) (ih _ h)
 | program k ih => intro w w' x h; simp only [Sem.run] at h; exact ih _ h
 | mark m k ih => intro w w' x h; simp only [Sem.run] at h; exact ih h
 | halt h => intro w w' x h; cases h
def Sub (h k : PHeap) : Prop := ∀ b o, h b = some o → k b = some o
def Disj (h k : PHeap) : Prop := ∀ b o o', h b = some o → k b = some o' → False
def uni (h k : PHeap) : PHeap := fun b => match h b with | some o => some o | none => k b
def wh (w : World) : PHeap := fun b => w.heap[b]?
theorem Sub.refl (h : PHeap) : Sub h h := fun _ _ e => e
theorem Sub.trans {h k m : PHeap} (a : Sub h k) (b : Sub k m) : Sub h m := fun x o e => b x o (a x o e)
theorem Q260 {h k : PHeap} {b : Nat} {o : Obj} (e : uni h k b = some o) : h b = some o ∨ k b = some o := by
 unfold uni at e
 cases hb : h b with
 | none => rw [hb] at e; exact .inr e
 | some x => rw [hb] at e; exact .inl e
theorem Q95 (h k : PHeap) : Sub h (uni h k) := fun b o e => by unfold uni; rw [e]
theorem Q80 {h k : PHeap} (d : Disj h k) : Sub k (uni h k) := fun b o e => by
 unfold uni
 cases hb : h b with
 | none => exact e
 | some x => exact (d b x o hb e).elim
theorem Q117 {h k m : PHeap} (a : Sub h m) (b : Sub k m) : Sub (uni h k) m := fun x o e => (Q260 e).elim (a x o) (b x o)
theorem Disj.symm {h k : PHeap} (d : Disj h k) : Disj k h := fun b o o' e e' => d b o' o e' e
theorem Disj.sub {h k h' k' : PHeap} (d : Disj h k) (a : Sub h' h) (b : Sub k' k) : Disj h' k' := fun x o o' e e' => d x o o' (a x o e) (b x o' e')
theorem Disj.uni_l {h k m : PHeap} (a : Disj h m) (b : Disj k m) : Disj (uni h k) m := fun x o o' e e' => (Q260 e).elim (fun e => a x o o' e e') (fun e => b x o o' e e')
theorem Disj.uni_r {h k m : PHeap} (a : Disj m h) (b : Disj m k) : Disj m (uni h k) := (Disj.uni_l a.symm b.symm).symm

def stars : List HProp → HProp
 | [], _ => True
 | c :: l, h => ∃ h1 h2, c h1 ∧ stars l h2 ∧ Disj h1 h2 ∧ Sub h1 h ∧ Sub h2 h
theorem Q200 : ∀ {l : List HProp} {h k : PHeap}, stars l h → Sub h k → stars l k
 | [], _, _, _, _ => trivial
 | _ :: _, _, _, ⟨h1, h2, a, b, d, s1, s2⟩, s => ⟨h1, h2, a, b, d, s1.trans s, s2.trans s⟩
inductive Frt : List HProp → HProp → List HProp → Prop
 | z {c l} : Frt (c :: l) c l
 | s {d l c l'} : Frt l c l' → Frt (d :: l) c (d :: l')
theorem Q178 {l : List HProp} {c : HProp} {l' : List HProp} (f : Frt l c l') : ∀ {h}, stars l h → stars (c :: l') h := by
 induction f with
 | z => exact fun h => h
 | s f ih =>
  rintro h ⟨h1, h2, a, b, d, s1, s2⟩
  obtain ⟨k1, k2, a', b', d', t1, t2⟩ := ih b
  exact ⟨k1, uni h1 k2, a', ⟨h1, k2, a, b', d.sub (Sub.refl _) t2, Q95 _ _, Q80 (d.sub (Sub.refl _) t2)⟩,
   Disj.uni_r (d.symm.sub t1 (Sub.refl _)) d', t1.trans s2, Q117 s1 (t2.trans s2)⟩

structure Ok (R : Res) (w : World) : Prop where
 sub : Sub R.heap (wh w)
 os : w.os = R.os
 tape : w.tape = R.tape
 output : w.output = R.output
 drawn : R.drawn ≤ w.drawn
def sat (R : Res) (l : List HProp) (w : World) : Prop := Ok R w ∧ ∃ h, stars l h ∧ Disj h R.heap ∧ Sub h (wh w)
theorem sat.frt {R : Res} {l : List HProp} {c : HProp} {l' : List HProp} {w : World} (f : Frt l c l') (h : sat R l w) : sat R (c :: l') w :=
 let ⟨o, k, a, b, d⟩ := h
 ⟨o, k, Q178 f a, b, d⟩
theorem sat.drop {R : Res} {c : HProp} {l : List HProp} {w : World} (h : sat R (c :: l) w) : sat R l w :=
 let ⟨o, k, ⟨_, h2, _, b, _, _, s2⟩, d, s⟩ := h
 ⟨o, k, Q200 b s2, d, s⟩
def emp : HProp := fun h => ∀ b, h b = none
theorem sat.emp {R : Res} {l : List HProp} {w : World} (h : sat R l w) : sat R (emp :: l) w :=
 let ⟨o, k, a, d, s⟩ := h
 ⟨o, k, ⟨fun _ => none, k, fun _ => rfl, a, (fun _ _ _ e => by cases e), (fun _ _ e => by cases e), Sub.refl _⟩, d, s⟩
theorem sat.upd {R : Res} {c : HProp} {l : List HProp} {w : World} (hs : sat R (c :: l) w) : ∃ h1, c h1 ∧ Sub h1 (wh w) ∧
 ∀ (c' : HProp) (h1' : PHeap) (w' : World), c' h1' → w'.os = w.os → w'.tape = w.tape → w'.output = w.output → w.drawn ≤ w'.drawn →
  (∀ b o, w.heap[b]? = some o → h1 b = none → w'.heap[b]? = some o) → Sub h1' (wh w') → (∀ b o, h1' b = some o → (∃ o', h1 b = some o') ∨ w.heap[b]? = none) → sat R (c' :: l) w' := by
 obtain ⟨ok, h, ⟨h1, h2, a, b, d, s1, s2⟩, dR, s⟩ := hs
 refine ⟨h1, a, s1.trans s, fun c' h1' w' a' e1 e2 e3 e4 keep sub' old => ?_⟩
 have d2 : Disj h1' h2 := fun x o o' e e' => by
  rcases old x o e with ⟨o1, e1⟩ | e1
  ·exact d x o1 o' e1 e'
  ·have := s x o' (s2 x o' e'); simp only [wh] at this; rw [e1] at this; cases this
 have d1 : Disj h1' R.heap := fun x o o' e e' => by
  rcases old x o e with ⟨o1, e1⟩ | e1
  ·exact dR x o1 o' (s1 x o1 e1) e'
  ·have := ok.sub x o' e'; simp only [wh] at this; rw [e1] at this; cases this
 have none1 : ∀ x o, h2 x = some o → h1 x = none := fun x o e => by
  cases hh : h1 x with
  | none => rfl
  | some y => exact (d x y o hh e).elim
 have noneR : ∀ x o, R.heap x = some o → h1 x = none := fun x o e => by
  cases hh : h1 x with
  | none => rfl
  | some y => exact (dR x y o (s1 x y hh) e).elim
 refine ⟨⟨fun x o e => keep x o (ok.sub x o e) (noneR x o e), e1.trans ok.os, e2.trans ok.tape, e3.trans ok.output, Nat.le_trans ok.drawn e4⟩,
  uni h1' h2, ⟨h1', h2, a', b, d2, Q95 _ _, Q80 d2⟩, Disj.uni_l d1 (dR.sub s2 (Sub.refl _)), Q117 sub' fun x o e => keep x o (s x o (s2 x o e)) (none1 x o e)⟩

def pt (b : Nat) (o : Obj) : HProp := fun h => h b = some o
def single (b : Nat) (o : Obj) : PHeap := fun x => if x = b then some o else none
theorem Q119 {b x : Nat} {o o' : Obj} (h : single b o x = some o') : x = b ∧ o' = o := by
 unfold single at h
 split at h
 ·rename_i e; exact ⟨e, (Option.some.inj h).symm⟩
 ·cases h
theorem Q216 (b : Nat) (o : Obj) : single b o b = some o := if_pos rfl
theorem sat.alloc {R : Res} {l : List HProp} {w : World} (h : sat R l w) (o : Obj) : sat R (pt w.heap.size o :: l) (w.alloc o) := by
 obtain ⟨h1, a, _, k⟩ := h.emp.upd
 refine k _ (single w.heap.size o) (w.alloc o) (by simp [pt, single]) rfl rfl rfl (Nat.le_refl _) (fun b o' e _ => ?_) (fun b o' e => ?_) (fun b o' e => .inr ?_)
 ·rw [Below.heap_alloc _ _ _ (Array.getElem?_eq_some_iff.1 e).1]; exact e
 ·obtain ⟨rfl, rfl⟩ := Q119 e; exact heap_alloc_new w _
 ·obtain ⟨rfl, rfl⟩ := Q119 e; simp
theorem sat.same {R : Res} {l : List HProp} {w w' : World} (h : sat R l w) (e : w'.heap = w.heap) (e1 : w'.os = w.os) (e2 : w'.tape = w.tape) (e3 : w'.output = w.output) (e4 : w.drawn ≤ w'.drawn) : sat R l w' := by
 obtain ⟨ok, k, a, d, s⟩ := h
 have hw : wh w' = wh w := by unfold wh; rw [e]
 exact ⟨⟨hw ▸ ok.sub, e1.trans ok.os, e2.trans ok.tape, e3.trans ok.output, Nat.le_trans ok.drawn e4⟩, k, a, d, hw ▸ s⟩
theorem sat.drew {R : Res} {l : List HProp} {w : World} (h : sat R l w) : sat R l w.drew := h.same rfl rfl rfl rfl (Nat.le_succ _)
theorem sat.head {R : Res} {c : HProp} {l : List HProp} {w : World} (h : sat R (c :: l) w) : ∃ h1, c h1 ∧ Sub h1 (wh w) := let ⟨h1, a, b, _⟩ := h.upd; ⟨h1, a, b⟩
theorem sat.pt {R : Res} {b : Nat} {o : Obj} {l : List HProp} {w : World} (h : sat R (pt b o :: l) w) : w.heap[b]? = some o := let ⟨h1, a, s⟩ := h.head; s b o a
theorem sat.modify {R : Res} {b : Nat} {o o' : Obj} {l : List HProp} {w w' : World} (h : sat R (Bw.pt b o :: l) w) (e1 : w'.os = w.os) (e2 : w'.tape = w.tape) (e3 : w'.output = w.output) (e4 : w.drawn ≤ w'.drawn)
 (hb : w'.heap[b]? = some o') (hk : ∀ x, x ≠ b → w'.heap[x]? = w.heap[x]?) : sat R (Bw.pt b o' :: l) w' := by
 obtain ⟨h1, a, s, k⟩ := h.upd
 refine k _ (single b o') w' (by simp [Bw.pt, single]) e1 e2 e3 e4 (fun x y e en => ?_) (fun x y e => ?_) (fun x y e => .inl ?_)
 ·by_cases hx : x = b
  ·subst hx; rw [show h1 x = some o from a] at en; cases en
  ·rw [hk x hx]; exact e
 ·obtain ⟨rfl, rfl⟩ := Q119 e; exact hb
 ·obtain ⟨rfl, rfl⟩ := Q119 e; exact ⟨o, a⟩
theorem sat.imp {R : Res} {c c' : HProp} {l : List HProp} {w : World} (h : sat R (c :: l) w) (i : ∀ h, c h → c' h) : sat R (c' :: l) w :=
 let ⟨o, k, ⟨h1, h2, a, b⟩, d⟩ := h
 ⟨o, k, ⟨h1, h2, i _ a, b⟩, d⟩
def Res.add (R : Res) (h : PHeap) : Res := { R with heap := uni h R.heap }
theorem sat.freeze {R : Res} {c : HProp} {l : List HProp} {w : World} (h : sat R (c :: l) w) : ∃ h1, c h1 ∧ Disj h1 R.heap ∧ sat (R.add h1) l w := by
 obtain ⟨ok, k, ⟨h1, h2, a, b, d, s1, s2⟩, dR, s⟩ := h
 exact ⟨h1, a, dR.sub s1 (Sub.refl _), ⟨Q117 (s1.trans s) ok.sub, ok.os, ok.tape, ok.output, ok.drawn⟩, h2, b, Disj.uni_r d.symm (dR.sub s2 (Sub.refl _)), s2.trans s⟩
theorem sat.thaw {R : Res} {c : HProp} {l : List HProp} {w : World} {h1 : PHeap} (a : c h1) (d : Disj h1 R.heap) (h : sat (R.add h1) l w) : sat R (c :: l) w := by
 obtain ⟨ok, k, b, dk, s⟩ := h
 have s1 : Sub h1 (wh w) := (Q95 h1 R.heap).trans ok.sub
 have dk1 : Disj h1 k := (dk.sub (Sub.refl _) (Q95 _ _)).symm
 exact ⟨⟨(Q80 d).trans ok.sub, ok.os, ok.tape, ok.output, ok.drawn⟩, uni h1 k, ⟨h1, k, a, b, dk1, Q95 _ _, Q80 dk1⟩, Disj.uni_l d (dk.sub (Sub.refl _) (Q80 d)), Q117 s1 s⟩

def look : List (Nat × Value) → Nat → Option Value
 | [], _ => none
 | (k, v) :: r, t => match Nat.beq k t with | true => some v | false => look r t
structure Env (n : Nat) (ds : List Deferred) (env : List (Nat × Value)) (a : Act) : Prop where
 size : a.tmps.size = n
 defs : a.defers = ds
 get : ∀ t v, look env t = some v → a.eval (.tmp t) = v
def ev (env : List (Nat × Value)) : Operand → Option Value
 | .tmp t => look env t
 | .const v => some v
 | .global g => some (.pointer (some ⟨g, 0, none⟩))
 | .func f => some (.func (.func f) #[] #[])
theorem Env.ev {n : Nat} {ds : List Deferred} {env : List (Nat × Value)} {a : Act} (h : Env n ds env a) {x : Operand} {v : Value} (e : Bw.ev env x = some v) : a.eval x = v := by
 cases x with
 | tmp t => exact h.get t v e
 | const u => exact Option.some.inj e
 | global g => exact Option.some.inj e
 | func f => exact Option.some.inj e
theorem Env.put {n : Nat} {ds : List Deferred} {env : List (Nat × Value)} {a : Act} (h : Env n ds env a) {d : Nat} (hd : Nat.blt d n = true) (v : Value) : Env n ds ((d, v) :: env) (a.put (some d) v) := by
 refine ⟨by simp [Act.put, h.size], h.defs, fun t u e => ?_⟩
 have hdn : d < a.tmps.size := by rw [h.size]; simp only [Nat.blt_eq] at hd; exact hd
 by_cases hdt : d = t
 ·subst hdt
  have : look ((d, v) :: env) d = some v := by simp [look]
  rw [this] at e
  cases e
  show (a.tmps.setIfInBounds d v).getD d undef = v
  simp [hdn]
 ·have : look ((d, v) :: env) t = look env t := by
   have hb : Nat.beq d t = false := by rw [← Bool.not_eq_true, Nat.beq_eq]; exact hdt
   simp [look, hb]
  rw [this] at e
  have := h.get t u e
  rw [← this]
  show (a.tmps.setIfInBounds d v).getD t undef = a.tmps.getD t undef
  simp [Array.getD_eq_getD_getElem?, hdt]
def SubEnv (env : List (Nat × Value)) : List (Nat × Value) → Prop
 | [] => True
 | (t, v) :: r => look env t = some v ∧ SubEnv env r
theorem SubEnv.look {env : List (Nat × Value)} : ∀ {env' : List (Nat × Value)}, SubEnv env env' → ∀ t v, Bw.look env' t = some v → Bw.look env t = some v
 | (k, u) :: r, h, t, v, e => by
  unfold Bw.look at e
  split at e
  ·rename_i hb
   have : k = t := by simpa using hb
   subst this
   cases e
   exact h.1
  ·exact h.2.look t v e
theorem Env.sub {n : Nat} {ds : List Deferred} {env env' : List (Nat × Value)} {a : Act} (h : Env n ds env a) (s : SubEnv env env') : Env n ds env' a := ⟨h.size, h.defs, fun t v e => h.get t v (s.look t v e)⟩

def At (n : Nat) (ds : List Deferred) (R : Res) (env : List (Nat × Value)) (l : List HProp) (K : Act → World → Prop) : Prop := ∀ a w, Env n ds env a → sat R l w → K a w
section
variable {P : Program} {ops : Array Oper} {Q : Exit → Act → World → Prop} {rest : List Oper} {n : Nat} {ds : List Deferred} {R : Res} {env : List (Nat × Value)} {l : List HProp} {K : Act → World → Prop}
theorem At.sub {env' : List (Nat × Value)} (s : SubEnv env env') (h : At n ds R env' l K) : At n ds R env l K := fun a w e hs => h a w (e.sub s) hs
theorem At.frt {c : HProp} {l' : List HProp} (f : Frt l c l') (h : At n ds R env (c :: l') K) : At n ds R env l K := fun a w e hs => h a w e (hs.frt f)
theorem At.drop {c : HProp} {l' : List HProp} (f : Frt l c l') (h : At n ds R env l' K) : At n ds R env l K := fun a w e hs => h a w e (hs.frt f).drop
theorem At.seq {x y : Code} (h : At n ds R env l (x.wp P (Exit.then (y.wp P Q) Q))) : At n ds R env l ((Code.seq x y).wp P Q) := fun a w e hs => wp_seq (h a w e hs)
theorem At.region {id : Nat} {os : List Oper} (h : At n ds R env l (wpList P os.toArray Q os)) : At n ds R env l ((Code.region id os.toArray false).wp P Q) := fun a w e hs => wp_region_lit (h a w e hs)
theorem At.nil (h : At n ds R env l (Q .normal)) : At n ds R env l (wpList P ops Q []) := fun a w e hs => h a w e hs
theorem At.skip (h : At n ds R env l (Q .normal)) : At n ds R env l (Code.skip.wp P Q) := fun a w e hs => wp_skip (h a w e hs)
theorem At.exit {id : Nat} (h : At n ds R env l (Q (.exit id))) : At n ds R env l ((Code.exit id).wp P Q) := fun a w e hs => wp_exit (h a w e hs)
theorem At.ret (h : At n ds R env l (Q .ret)) : At n ds R env l (Code.ret.wp P Q) := fun a w e hs => wp_ret (h a w e hs)
theorem At.block {id : Nat} {c : Code} (h : At n ds R env l (c.wp P (Exit.inBlock id Q))) : At n ds R env l ((Code.block id c).wp P Q) := fun a w e hs => wp_block (h a w e hs)
theorem At.condT {c : Operand} {x y : Code} {b : Bool} (hc : ev env c = some (.bool b)) (hb : b = true) (h : At n ds R env l (x.wp P Q)) : At n ds R env l ((Code.cond c x y).wp P Q) := fun a w e hs =>
 wp_cond (t := true) (by rw [e.ev hc, hb]) (h a w e hs)
theorem At.condF {c : Operand} {x y : Code} {b : Bool} (hc : ev env c = some (.bool b)) (hb : b = false) (h : At n ds R env l (y.wp P Q)) : At n ds R env l ((Code.cond c x y).wp P Q) := fun a w e hs =>
 wp_cond (t := false) (by rw [e.ev hc, hb]) (h a w e hs)
theorem At.loop {X : Type} {c : Code} (E : X → List (Nat × Value)) (L : X → List HProp) (I : Nat → X → Prop) (m : Nat) (x : X) (hx : I m x) (h0 : At n ds R env l (fun a w => Env n ds (E x) a ∧ sat R (L x) w))
 (round : ∀ m x, I m x → At n ds R (E x) (L x) (c.wp P (Exit.then (fun a w => ∃ m' x', m' < m ∧ I m' x' ∧ Env n ds (E x') a ∧ sat R (L x') w) Q))) : At n ds R env l ((Code.loop c).wp P Q) := by
 intro a w e hs
 have key : ∀ m x a w, I m x → Env n ds (E x) a → sat R (L x) w → ∀ b k cs, ∃ e a' w', Q e a' w' ∧ Arrives P (lone (b.at a (.code c :: .inLoop c :: k)) cs w) b k cs e a' w' := by
  intro m
  induction m using Nat.strongRecOn with
  | _ m ih =>
   intro x a w hI he hs b k cs
   obtain ⟨ex, a1, w1, hq, harr⟩ := round m x hI a w he hs b (.inLoop c :: k) cs
   cases ex with
   | normal =>
    obtain ⟨m', x', hlt, hI', he', hs'⟩ := hq
    obtain ⟨e2, a2, w2, hq2, harr2⟩ := ih m' hlt x' a1 w1 hI' he' hs' b k cs
    exact ⟨e2, a2, w2, hq2, .of_steps (Steps.trans harr (.one step_inLoop)) harr2⟩
   | exit id => exact ⟨_, a1, w1, hq, .pass (x := .inLoop c) rfl (fun _ _ => .inl (by simp)) harr⟩
   | goto l => exact ⟨_, a1, w1, hq, .pass (x := .inLoop c) rfl (fun _ _ => .inl (by simp)) harr⟩
   | ret => exact ⟨_, a1, w1, hq, .pass (x := .inLoop c) rfl (fun _ _ => .inl (by simp)) harr⟩
   | panic ch => exact ⟨_, a1, w1, hq, .pass (x := .inLoop c) rfl (fun _ _ => .inl (by simp)) harr⟩
   | outgrown => exact ⟨_, a1, w1, hq, .pass (x := .inLoop c) rfl (fun _ _ => .inl (by simp)) harr⟩
 obtain ⟨he, hs'⟩ := h0 a w e hs
 intro b k cs
 obtain ⟨e', a', w', hq, harr⟩ := key m x a w hx he hs' b k cs
 exact ⟨e', a', w', hq, .of_steps (.one step_loop) harr⟩

end
end Go.Bw
namespace Go.Bw
abbrev bp (b : Nat) : Value := .pointer (some ⟨b, 0, none⟩)
abbrev i6 (n : Int) : Value := .int .i64 n
abbrev pc (b : Nat) (l : List Value) (t : Nat) : HProp := pt b (.cells l.toArray t)
abbrev I32 := Int × Int × Int × Int × Int × Int × Int × Int × Int × Int × Int × Int × Int × Int × Int × Int × Int × Int × Int × Int × Int × Int × Int × Int × Int × Int × Int × Int × Int × Int × Int × Int
abbrev d8 {a b c d e f g h i : Type} (s : a × b × c × d × e × f × g × h × i) : i := s.2.2.2.2.2.2.2.2
end Go.Bw
namespace Go.Bw
open Go
section
variable {n : Nat} {ds : List Deferred} {R : Res} {env : List (Nat × Value)} {l : List HProp} {K : Act → World → Prop}
theorem At.f1 {c0 c1 : HProp} (h : At n ds R env (c1 :: c0 :: l) K) : At n ds R env (c0 :: c1 :: l) K := At.frt (.s .z) h
theorem At.f2 {c0 c1 c2 : HProp} (h : At n ds R env (c2 :: c0 :: c1 :: l) K) : At n ds R env (c0 :: c1 :: c2 :: l) K := At.frt (.s (.s .z)) h
theorem At.f3 {c0 c1 c2 c3 : HProp} (h : At n ds R env (c3 :: c0 :: c1 :: c2 :: l) K) : At n ds R env (c0 :: c1 :: c2 :: c3 :: l) K := At.frt (.s (.s (.s .z))) h
theorem At.f4 {c0 c1 c2 c3 c4 : HProp} (h : At n ds R env (c4 :: c0 :: c1 :: c2 :: c3 :: l) K) : At n ds R env (c0 :: c1 :: c2 :: c3 :: c4 :: l) K := At.frt (.s (.s (.s (.s .z)))) h
theorem At.f5 {c0 c1 c2 c3 c4 c5 : HProp} (h : At n ds R env (c5 :: c0 :: c1 :: c2 :: c3 :: c4 :: l) K) : At n ds R env (c0 :: c1 :: c2 :: c3 :: c4 :: c5 :: l) K := At.frt (.s (.s (.s (.s (.s .z))))) h
theorem At.f6 {c0 c1 c2 c3 c4 c5 c6 : HProp} (h : At n ds R env (c6 :: c0 :: c1 :: c2 :: c3 :: c4 :: c5 :: l) K) : At n ds R env (c0 :: c1 :: c2 :: c3 :: c4 :: c5 :: c6 :: l) K := At.frt (.s (.s (.s (.s (.s (.s .z)))))) h
theorem At.f7 {c0 c1 c2 c3 c4 c5 c6 c7 : HProp} (h : At n ds R env (c7 :: c0 :: c1 :: c2 :: c3 :: c4 :: c5 :: c6 :: l) K) : At n ds R env (c0 :: c1 :: c2 :: c3 :: c4 :: c5 :: c6 :: c7 :: l) K := At.frt (.s (.s (.s (.s (.s (.s (.s .z))))))) h
theorem At.f8 {c0 c1 c2 c3 c4 c5 c6 c7 c8 : HProp} (h : At n ds R env (c8 :: c0 :: c1 :: c2 :: c3 :: c4 :: c5 :: c6 :: c7 :: l) K) : At n ds R env (c0 :: c1 :: c2 :: c3 :: c4 :: c5 :: c6 :: c7 :: c8 :: l) K := At.frt (.s (.s (.s (.s (.s (.s (.s (.s .z)))))))) h
theorem At.f9 {c0 c1 c2 c3 c4 c5 c6 c7 c8 c9 : HProp} (h : At n ds R env (c9 :: c0 :: c1 :: c2 :: c3 :: c4 :: c5 :: c6 :: c7 :: c8 :: l) K) : At n ds R env (c0 :: c1 :: c2 :: c3 :: c4 :: c5 :: c6 :: c7 :: c8 :: c9 :: l) K := At.frt (.s (.s (.s (.s (.s (.s (.s (.s (.s .z))))))))) h
theorem At.f10 {c0 c1 c2 c3 c4 c5 c6 c7 c8 c9 c10 : HProp} (h : At n ds R env (c10 :: c0 :: c1 :: c2 :: c3 :: c4 :: c5 :: c6 :: c7 :: c8 :: c9 :: l) K) : At n ds R env (c0 :: c1 :: c2 :: c3 :: c4 :: c5 :: c6 :: c7 :: c8 :: c9 :: c10 :: l) K := At.frt (.s (.s (.s (.s (.s (.s (.s (.s (.s (.s .z)))))))))) h
theorem At.f11 {c0 c1 c2 c3 c4 c5 c6 c7 c8 c9 c10 c11 : HProp} (h : At n ds R env (c11 :: c0 :: c1 :: c2 :: c3 :: c4 :: c5 :: c6 :: c7 :: c8 :: c9 :: c10 :: l) K) : At n ds R env (c0 :: c1 :: c2 :: c3 :: c4 :: c5 :: c6 :: c7 :: c8 :: c9 :: c10 :: c11 :: l) K := At.frt (.s (.s (.s (.s (.s (.s (.s (.s (.s (.s (.s .z))))))))))) h
theorem At.f12 {c0 c1 c2 c3 c4 c5 c6 c7 c8 c9 c10 c11 c12 : HProp} (h : At n ds R env (c12 :: c0 :: c1 :: c2 :: c3 :: c4 :: c5 :: c6 :: c7 :: c8 :: c9 :: c10 :: c11 :: l) K) : At n ds R env (c0 :: c1 :: c2 :: c3 :: c4 :: c5 :: c6 :: c7 :: c8 :: c9 :: c10 :: c11 :: c12 :: l) K := At.frt (.s (.s (.s (.s (.s (.s (.s (.s (.s (.s (.s (.s .z)))))))))))) h
theorem At.f13 {c0 c1 c2 c3 c4 c5 c6 c7 c8 c9 c10 c11 c12 c13 : HProp} (h : At n ds R env (c13 :: c0 :: c1 :: c2 :: c3 :: c4 :: c5 :: c6 :: c7 :: c8 :: c9 :: c10 :: c11 :: c12 :: l) K) : At n ds R env (c0 :: c1 :: c2 :: c3 :: c4 :: c5 :: c6 :: c7 :: c8 :: c9 :: c10 :: c11 :: c12 :: c13 :: l) K := At.frt (.s (.s (.s (.s (.s (.s (.s (.s (.s (.s (.s (.s (.s .z))))))))))))) h
end
end Go.Bw
namespace Go.Bw
open Go Go.RowKit

inductive TK where
 | bool | int (k : IntKind) | string | slice (e : Nat) | array (n e : Nat) | struct (fs : List (Nat × Nat)) | pointer (e : Nat) | iface | func | map (k e : Nat) | other
def tk : TypeDesc → TK
 | .bool => .bool
 | .int k => .int k
 | .string => .string
 | .slice e => .slice e
 | .array n e => .array n e
 | .struct fs => .struct (fs.toList.map fun f => (f.type, f.offset))
 | .pointer e => .pointer e
 | .interface _ => .iface
 | .func .. => .func
 | .map k e => .map k e
 | _ => .other
structure TI where
 k : TK
 size : Nat
 bytes : Nat
 zero : List Value
structure TypeOk (P : Program) (t : Nat) (i : TI) : Prop where
 k : (P.underlying t).map tk = some i.k
 i : (P.info? t).map (fun x => (x.size, x.bytes, x.zero.map (·.cells.toList))) = some (i.size, i.bytes, some i.zero)
def AllOk (P : Program) : List (Nat × TI) → Prop
 | [] => True
 | x :: r => TypeOk P x.1 x.2 ∧ AllOk P r
def tlook : List (Nat × TI) → Nat → Option TI
 | [], _ => none
 | (k, v) :: r, t => match Nat.beq k t with | true => some v | false => tlook r t
class Tys (P : Program) where
 tt : List (Nat × TI)
 ok : AllOk P tt
def ti (P : Program) [Tys P] (t : Nat) : Option TI := tlook (Tys.tt P) t
theorem Q243 {P : Program} : ∀ {l : List (Nat × TI)}, AllOk P l → ∀ {t i}, tlook l t = some i → TypeOk P t i
 | [], _, _, _, e => by cases e
 | (k, v) :: r, h, t, i, e => by
  unfold tlook at e
  split at e
  ·rename_i hb
   have : k = t := Nat.eq_of_beq_eq_true hb
   subst this
   cases e
   exact h.1
  ·exact Q243 h.2 e
theorem Q13 {P : Program} [Tys P] {t : Nat} {i : TI} (h : ti P t = some i) : TypeOk P t i := Q243 Tys.ok h
section
variable {P : Program} {t : Nat} {i : TI}
theorem TypeOk.under (h : TypeOk P t i) : ∃ d, P.underlying t = some d ∧ tk d = i.k := by
 have := h.k
 cases hd : P.underlying t with
 | none => rw [hd] at this; cases this
 | some d => rw [hd] at this; exact ⟨d, rfl, Option.some.inj this⟩
theorem TypeOk.bool (h : TypeOk P t i) (e : i.k = .bool) : P.underlying t = some .bool := by
 obtain ⟨d, hd, hk⟩ := h.under; rw [e] at hk; cases d <;> simp [tk] at hk; exact hd
theorem TypeOk.int (h : TypeOk P t i) {k : IntKind} (e : i.k = .int k) : P.underlying t = some (.int k) := by
 obtain ⟨d, hd, hk⟩ := h.under; rw [e] at hk; cases d <;> simp [tk] at hk; rw [hk] at hd; exact hd
theorem TypeOk.string (h : TypeOk P t i) (e : i.k = .string) : P.underlying t = some .string := by
 obtain ⟨d, hd, hk⟩ := h.under; rw [e] at hk; cases d <;> simp [tk] at hk; exact hd
theorem TypeOk.slice (h : TypeOk P t i) {el : Nat} (e : i.k = .slice el) : P.underlying t = some (.slice el) := by
 obtain ⟨d, hd, hk⟩ := h.under; rw [e] at hk; cases d <;> simp [tk] at hk; rw [hk] at hd; exact hd
theorem TypeOk.array (h : TypeOk P t i) {n el : Nat} (e : i.k = .array n el) : P.underlying t = some (.array n el) := by
 obtain ⟨d, hd, hk⟩ := h.under; rw [e] at hk; cases d <;> simp [tk] at hk; rw [hk.1, hk.2] at hd; exact hd
theorem TypeOk.pointer (h : TypeOk P t i) {el : Nat} (e : i.k = .pointer el) : P.underlying t = some (.pointer el) := by
 obtain ⟨d, hd, hk⟩ := h.under; rw [e] at hk; cases d <;> simp [tk] at hk; rw [hk] at hd; exact hd
theorem TypeOk.iface (h : TypeOk P t i) (e : i.k = .iface) : ∃ m, P.underlying t = some (.interface m) := by
 obtain ⟨d, hd, hk⟩ := h.under; rw [e] at hk; cases d <;> simp [tk] at hk; exact ⟨_, hd⟩
theorem TypeOk.struct (h : TypeOk P t i) {fs : List (Nat × Nat)} (e : i.k = .struct fs) : ∃ f : Array Field, P.underlying t = some (.struct f) ∧ f.toList.map (fun f => (f.type, f.offset)) = fs := by
 obtain ⟨d, hd, hk⟩ := h.under; rw [e] at hk; cases d <;> simp [tk] at hk; exact ⟨_, hd, hk⟩
theorem TypeOk.info (h : TypeOk P t i) : ∃ x z, P.info? t = some x ∧ x.size = i.size ∧ x.bytes = i.bytes ∧ x.zero = some z ∧ z.cells = i.zero.toArray := by
 obtain ⟨x, hx, he⟩ := Option.map_eq_some_iff.1 h.i
 simp only [Prod.mk.injEq] at he
 obtain ⟨h1, h2, h3⟩ := he
 obtain ⟨z, hz, hc⟩ := Option.map_eq_some_iff.1 h3
 exact ⟨x, z, hx, h1, h2, hz, by rw [← hc]⟩
def agg : TK → Bool
 | .struct _ => true
 | .array _ _ => true
 | _ => false
theorem TypeOk.run_isAgg (h : TypeOk P t i) (w : World) : (isAgg t).run P w = .ok (agg i.k) w := by
 obtain ⟨d, hd, hk⟩ := h.under
 simp only [isAgg, Sem.run_bind, run_underlying hd, Result.andThen]
 cases d <;> simp [tk] at hk <;> rw [← hk] <;> rfl
theorem TypeOk.run_sizeOf (h : TypeOk P t i) (w : World) : (sizeOf t).run P w = .ok i.size w := by
 obtain ⟨x, z, hx, h1, _⟩ := h.info
 simp [sizeOf, typeInfo, hx, h1]
end

def band (k : IntKind) (a b : Int) : Int := k.wrap (BitVec.ofInt k.bits a &&& BitVec.ofInt k.bits b).toNat
def bor (k : IntKind) (a b : Int) : Int := k.wrap (BitVec.ofInt k.bits a ||| BitVec.ofInt k.bits b).toNat
def bxor (k : IntKind) (a b : Int) : Int := k.wrap (BitVec.ofInt k.bits a ^^^ BitVec.ofInt k.bits b).toNat
def bandnot (k : IntKind) (a b : Int) : Int := k.wrap (BitVec.ofInt k.bits a &&& ~~~ BitVec.ofInt k.bits b).toNat
def seq (x y : ByteArray) : Bool := decide (x.data.toList = y.data.toList)
def slt (x y : ByteArray) : Bool := Op.bytesLess x.data.toList y.data.toList
theorem seq_eq' (x y : ByteArray) : (x.data == y.data) = seq x y := by
 unfold seq
 rw [Bool.eq_iff_iff]
 simp
theorem seq_eq (x y : ByteArray) : (x.toList == y.toList) = seq x y := by
 unfold seq
 rw [ByteArray.toList_eq, ByteArray.toList_eq, Bool.eq_iff_iff]
 simp
def isBool : TK → Bool | .bool => true | _ => false
def isStr : TK → Bool | .string => true | _ => false
def isSl : TK → Bool | .slice _ => true | _ => false
def pbin (P : Program) [Tys P] (t : Nat) (op : BinOp) : Value → Value → Option Value
 | .int k a, .int k' b => if k = k' then
  match op with
  | .add => some (.int k (k.wrap (a + b)))
  | .sub => some (.int k (k.wrap (a - b)))
  | .mul => some (.int k (k.wrap (a * b)))
  | .and => some (.int k (band k a b))
  | .or => some (.int k (bor k a b))
  | .xor => some (.int k (bxor k a b))
  | .andNot => some (.int k (bandnot k a b))
  | .eql => some (.bool (decide (a = b)))
  | .neq => some (.bool (!decide (a = b)))
  | .lss => some (.bool (decide (a < b)))
  | .leq => some (.bool (decide (a ≤ b)))
  | .gtr => some (.bool (decide (b < a)))
  | .geq => some (.bool (decide (b ≤ a)))
  | _ => none
  else none
 | .string a, .string b =>
  match op with
  | .eql => some (.bool (seq a b))
  | .neq => some (.bool (!seq a b))
  | .lss => some (.bool (slt a b))
  | .leq => some (.bool (slt a b || seq a b))
  | .gtr => some (.bool (!(slt a b || seq a b)))
  | .geq => some (.bool (!slt a b))
  | _ => none
 | .bool a, .bool b => match (ti P t).map (isBool ·.k) with
  | some true => (match op with | .eql => some (.bool (a == b)) | .neq => some (.bool (!(a == b))) | _ => none)
  | _ => none
 | _, _ => none
def vals (env : List (Nat × Value)) : List Operand → Option (List Value)
 | [] => some []
 | x :: r => match ev env x with
  | some v => (match vals env r with | some vs => some (v :: vs) | none => none)
  | none => none
def partOf (P : Program) [Tys P] (ft off : Nat) (cs : List Value) : Option Value :=
 match ti P ft with
 | some j => (match agg j.k with
  | true => some (.agg ((cs.drop off).take j.size).toArray)
  | false => cs[off]?)
 | none => none
def pv (P : Program) [Tys P] (env : List (Nat × Value)) : Op → Option Value
 | .move x => ev env x
 | .assign x => ev env x
 | .pick c a b => match ev env c with
  | some (.bool true) => ev env a
  | some (.bool false) => ev env b
  | _ => none
 | .binOp op t x y _ => match ev env x, ev env y with
  | some u, some v => pbin P t op u v
  | _, _ => none
 | .unOp op _ x => match op, ev env x with
  | .not, some (.bool b) => some (.bool (!b))
  | .neg, some (.int k a) => some (.int k (k.wrap (0 - a)))
  | _, _ => none
 | .nilCheck x => match ev env x with
  | some (.pointer (some a)) => some (.pointer (some a))
  | some (.func (.func f) fi c) => some (.func (.func f) fi c)
  | _ => none
 | .fieldAddr s x f => match ti P s, ev env x with
  | some i, some (.pointer (some a)) => (match i.k with
   | .struct fs => (match fs[f]? with
    | some (ft, off) => (match ti P ft with
     | some j => (match Nat.beq j.size 0 with | true => none | false => some (.pointer (some (a.add off))))
     | none => none)
    | none => none)
   | _ => none)
  | _, _ => none
 | .field s x f => match ti P s, ev env x with
  | some i, some (.agg cs) => (match i.k with
   | .struct fs => (match fs[f]? with
    | some (ft, off) => partOf P ft off cs.toList
    | none => none)
   | _ => none)
  | _, _ => none
 | .extract x i => match ev env x with
  | some (.tuple vs) => vs.toList[i]?
  | _ => none
 | .makeFunc fn first caps => match vals env first.toList, vals env caps.toList with
  | some fs, some cs => some (.func fn fs.toArray cs.toArray)
  | _, _ => none
 | .makeInterface t x => match ti P t, ev env x with
  | some i, some v => (match i.k with | .iface => none | .other => none | _ => some (.iface t v))
  | _, _ => none
 | .convert s d x => match ti P s, ti P d, ev env x with
  | some i, some j, some (.int _ n) => (match i.k, j.k with | .int _, .int k => some (.int k (k.wrap n)) | _, _ => none)
  | _, _, _ => none
 | .call c => match c.callee, c.args.toList, c.argTypes.toList with
  | .builtin .len, [x], [t] => (match ti P t, ev env x with
   | some i, some (.slice _ n _) => (match i.k with | .slice _ => some (.int .i64 n) | _ => none)
   | some i, some (.string s) => (match i.k with | .string => some (.int .i64 s.size) | _ => none)
   | some i, some _ => (match i.k with | .array n _ => some (.int .i64 n) | _ => none)
   | _, _ => none)
  | .builtin .min, [x, y], _ => (match ev env x, ev env y with
   | some (.int k a), some (.int _ b) => some (.int k (if b < a then b else a))
   | _, _ => none)
  | .builtin .max, [x, y], _ => (match ev env x, ev env y with
   | some (.int k a), some (.int _ b) => some (.int k (if a < b then b else a))
   | _, _ => none)
  | _, _, _ => none
 | _ => none

section
variable {P : Program} [Tys P] {w : World} {n : Nat} {ds : List Deferred} {env : List (Nat × Value)} {a : Act}
theorem Q113 {ft off : Nat} {cs : List Value} {v : Value} (h : partOf P ft off cs = some v) : (part ft cs.toArray off).run P w = .ok v w := by
 unfold partOf at h
 cases hj : ti P ft with
 | none => rw [hj] at h; cases h
 | some j =>
  rw [hj] at h
  have ok := Q13 hj
  simp only [part, Sem.run_bind, ok.run_isAgg, Result.andThen]
  cases hg : agg j.k with
  | true =>
   simp only [hg] at h
   cases h
   simp only [if_true, Sem.run_bind, ok.run_sizeOf, Result.andThen, Sem.run_pure]
   congr 2
   apply Array.ext'
   simp [Array.toList_extract, List.extract_eq_take_drop]
  | false =>
   simp only [hg] at h
   simp only [Bool.false_eq_true, if_false, List.getElem?_toArray, h, Sem.run_pure]
theorem Q143 (he : Env n ds env a) : ∀ {l : List Operand} {vs : List Value}, vals env l = some vs → l.map a.eval = vs
 | [], vs, h => by cases h; rfl
 | x :: r, vs, h => by
  unfold vals at h
  cases hx : ev env x with
  | none => simp only [hx] at h; cases h
  | some v =>
   simp only [hx] at h
   cases hr : vals env r with
   | none => simp only [hr] at h; cases h
   | some us => simp only [hr] at h; cases h; simp [he.ev hx, Q143 he hr]
theorem int_beq (a b : Int) : (a == b) = decide (a = b) := by rw [Bool.eq_iff_iff]; simp
theorem Q332 (d : Nat) {t : Nat} (h : P.underlying t = some .bool) (p q : Bool) : (Op.equalIn (d + 1) t (.bool p) (.bool q)).run P w = .ok (p == q) w := by
 simp [Op.equalIn, run_underlying h]
theorem Q309 {t : Nat} (h : P.underlying t = some .bool) (p q : Bool) : (Op.equal t (.bool p) (.bool q)).run P w = .ok (p == q) w := Q332 9999 h p q
theorem pbin_ok {t : Nat} {op : BinOp} {u v r : Value} {x y : Operand} (h : pbin P t op u v = some r) :
 (do eqGuard op t x y u v; binOp op t u v : Sem Value).run P w = .ok r w := by
 unfold pbin at h
 split at h
 ·rename_i k a k' b
  split at h
  ·rename_i hk
   subst hk
   cases op <;> simp at h <;> subst h <;>
    simp [eqGuard, binOp, Op.intArith, Op.intBits, Op.intCmp, band, bor, bxor, bandnot, bne, int_beq]
  ·cases h
 ·cases op <;> simp at h <;> subst h <;> simp [eqGuard, binOp, Op.stringOp, seq_eq', bne, slt, ByteArray.toList_eq]
 ·rename_i p q
  cases hi : ti P t with
  | none => simp [hi] at h
  | some i =>
   cases hk : i.k <;> simp [hi, hk, isBool] at h
   have hu := (Q13 hi).bool hk
   cases op <;> simp at h <;> subst h <;> simp [eqGuard, binOp, Q309 hu]
 ·cases h
theorem pv_ok {o : Oper} {v : Value} (he : Env n ds env a) (h : pv P env o.op = some v) : (execOp a.eval o).run P w = .ok (.value v) w := by
 obtain ⟨dst, op, ty, pos, after, guard⟩ := o
 cases op <;> simp only [pv] at h <;> try (cases h; done)
 case move x => simp [execOp, he.ev h]
 case assign x => simp [execOp, he.ev h]
 case pick c x y =>
  split at h
  ·rename_i hc; simp [execOp, he.ev hc, he.ev h, asBool]
  ·rename_i hc; simp [execOp, he.ev hc, he.ev h, asBool]
  ·cases h
 case binOp op t x y yt =>
  split at h
  ·rename_i u q hu hq
   have := pbin_ok (w := w) (x := x) (y := y) h
   simp only [execOp, he.ev hu, he.ev hq, Sem.run_bind] at this ⊢
   simp [this]
  ·cases h
 case unOp op t x =>
  split at h
  ·rename_i b hb; cases h; simp [execOp, he.ev hb, Op.unary]
  ·rename_i k b hb; cases h; simp [execOp, he.ev hb, Op.unary, Op.intArith]
  ·cases h
 case nilCheck x =>
  split at h
  ·rename_i b hb; cases h; simp [execOp, he.ev hb]
  ·rename_i f fi c hb; cases h; simp [execOp, he.ev hb]
  ·cases h
 case fieldAddr s x f =>
  split at h
  ·rename_i i b hi hb
   split at h
   ·rename_i fs hk
    split at h
    ·rename_i ft off hf
     split at h
     ·rename_i j hj
      split at h
      ·cases h
      ·rename_i hz
       cases h
       obtain ⟨flds, hu, hm⟩ := (Q13 hi).struct hk
       have hfl : ∃ fl : Field, flds[f]? = some fl ∧ fl.type = ft ∧ fl.offset = off := by
        rw [← hm] at hf
        rw [List.getElem?_map] at hf
        obtain ⟨fl, h1, h2⟩ := Option.map_eq_some_iff.1 hf
        simp only [Prod.mk.injEq] at h2
        exact ⟨fl, by simpa using h1, h2.1, h2.2⟩
       obtain ⟨fl, h1, h2, h3⟩ := hfl
       have hz' : ¬ j.size = 0 := by
        intro e
        rw [e] at hz
        simp at hz
       simp only [execOp, he.ev hb, Instr.fieldAt, Sem.run_bind, run_underlying hu, Result.andThen, h1, Instr.sureAddr, Sem.run_pure, fieldPlace, h2, (Q13 hj).run_sizeOf, Sem.run_ite, h3, if_neg hz']
     ·cases h
    ·cases h
   ·cases h
  ·cases h
 case field s x f =>
  split at h
  ·rename_i i cs hi hb
   split at h
   ·rename_i fs hk
    split at h
    ·rename_i ft off hf
     obtain ⟨flds, hu, hm⟩ := (Q13 hi).struct hk
     have hfl : ∃ fl : Field, flds[f]? = some fl ∧ fl.type = ft ∧ fl.offset = off := by
      rw [← hm] at hf
      rw [List.getElem?_map] at hf
      obtain ⟨fl, h1, h2⟩ := Option.map_eq_some_iff.1 hf
      simp only [Prod.mk.injEq] at h2
      exact ⟨fl, by simpa using h1, h2.1, h2.2⟩
     obtain ⟨fl, h1, h2, h3⟩ := hfl
     have hp := Q113 (w := w) h
     simp only [execOp, he.ev hb, Instr.field, Sem.run_bind, run_underlying hu, Result.andThen, h1, asAgg, Sem.run_pure, h2, h3]
     rw [show cs = cs.toList.toArray from by simp]
     rw [hp]
    ·cases h
   ·cases h
  ·cases h
 case extract x i =>
  split at h
  ·rename_i vs hb
   have h' : vs[i]? = some v := by simpa using h
   simp [execOp, he.ev hb, Instr.extract, h']
  ·cases h
 case makeFunc fn first caps =>
  split at h
  ·rename_i fs cs h1 h2
   cases h
   have e0 := Q143 he h1
   have e1 : first.map a.eval = fs.toArray := by apply Array.ext'; rw [← e0, Array.toList_map]
   have e2 := Q143 he h2
   have e3 : caps.map a.eval = cs.toArray := by apply Array.ext'; rw [← e2, Array.toList_map]
   simp [execOp, e1, Instr.makeFunc, e3]
  ·cases h
 case makeInterface t x =>
  split at h
  ·rename_i i u hi hb
   obtain ⟨d, hd, hk⟩ := (Q13 hi).under
   split at h
   ·cases h
   ·cases h
   ·rename_i hn1 hn2
    cases h
    simp only [execOp, he.ev hb, Instr.makeInterface, Sem.run_bind, run_underlying hd, Result.andThen]
    cases d <;> first | rfl | exact (hn1 hk.symm).elim
  ·cases h
 case convert s d x =>
  split at h
  ·rename_i i j k m hi hj hb
   split at h
   ·rename_i k1 k2 hk1 hk2
    cases h
    simp [execOp, he.ev hb, convert, run_underlying ((Q13 hi).int hk1), run_underlying ((Q13 hj).int hk2), Conv.intToInt]
   ·cases h
  ·cases h
 case call c =>
  obtain ⟨callee, args, ats⟩ := c
  split at h
  ·rename_i x t hc ha hat
   have hc' : callee = .builtin .len := hc
   have ha' : args = #[x] := by simpa using congrArg List.toArray ha
   have hat' : ats = #[t] := by simpa using congrArg List.toArray hat
   subst hc' ha' hat'
   split at h
   ·rename_i i A m c2 hi hx
    split at h
    ·rename_i el hk
     cases h
     simp [execOp, resolve, invoke, builtin, Builtin.len_, he.ev hx, run_underlying ((Q13 hi).slice hk), goInt]
    ·cases h
   ·rename_i i s hi hx
    split at h
    ·rename_i hk
     cases h
     simp [execOp, resolve, invoke, builtin, Builtin.len_, he.ev hx, run_underlying ((Q13 hi).string hk), goInt]
    ·cases h
   ·rename_i i u _ _ hi hx
    split at h
    ·rename_i m el hk
     cases h
     simp [execOp, resolve, invoke, builtin, Builtin.len_, he.ev hx, run_underlying ((Q13 hi).array hk), goInt]
    ·cases h
   ·cases h
  ·rename_i _ x y hc ha
   have hc' : callee = .builtin .min := hc
   have ha' : args = #[x, y] := by simpa using congrArg List.toArray ha
   subst hc' ha'
   split at h
   ·rename_i k p k' q hx hy
    cases h
    simp [execOp, resolve, invoke, builtin, Builtin.min_, Builtin.min2, he.ev hx, he.ev hy]
   ·cases h
  ·rename_i _ x y hc ha
   have hc' : callee = .builtin .max := hc
   have ha' : args = #[x, y] := by simpa using congrArg List.toArray ha
   subst hc' ha'
   split at h
   ·rename_i k p k' q hx hy
    cases h
    simp [execOp, resolve, invoke, builtin, Builtin.max_, Builtin.max2, he.ev hx, he.ev hy]
   ·cases h
  ·cases h

def grd (os : List Oper) (env : List (Nat × Value)) (g : Option (Nat × Bool)) : Option Bool :=
 match g with
 | none => some true
 | some (j, want) => match os[j]? with
  | some q => (match q.dst with
   | some d => (match look env d with
    | some (.bool true) => some want
    | some (.bool false) => some (!want)
    | some (.tuple _) => some false
    | _ => none)
   | none => none)
  | none => none
def runP (P : Program) [Tys P] (n : Nat) (os : List Oper) : Nat → List Oper → List (Nat × Value) → Option (List Oper × List (Nat × Value))
 | 0, rest, env => some (rest, env)
 | k + 1, o :: rest, env => match grd os env o.guard, o.dst with
  | some true, some d => (match pv P env o.op, Nat.blt d n with
   | some v, true => runP P n os k rest ((d, v) :: env)
   | _, _ => none)
  | some false, some d => (match Nat.blt d n with
   | true => runP P n os k rest ((d, undef) :: env)
   | false => none)
  | some false, none => runP P n os k rest env
  | _, _ => none
 | _ + 1, [], _ => none
theorem Q76 {os : List Oper} {o : Oper} {b : Bool} (he : Env n ds env a) (h : grd os env o.guard = some b) : Region.wanted o (yielded os.toArray a.tmps) = b := by
 unfold grd at h
 unfold Region.wanted
 split at h
 ·rename_i hg; rw [hg]; simpa using h
 ·rename_i j want hg
  rw [hg]
  split at h
  ·rename_i q hq
   split at h
   ·rename_i d hd
    have key : ∀ t, look env d = some (.bool t) → yielded os.toArray a.tmps j = some t := fun t ht => by
     have := he.get d _ ht
     have hv : a.tmps[d]? = some (.bool t) := by
      have h2 : a.tmps.getD d undef = .bool t := this
      rw [Array.getD_eq_getD_getElem?] at h2
      cases hx : a.tmps[d]? with
      | none => rw [hx] at h2; simp [undef] at h2
      | some y => rw [hx] at h2; simp at h2; rw [h2]
     simp [yielded, hq, hd, hv]
    split at h
    ·rename_i ht; show (yielded os.toArray a.tmps j == some want) = b; rw [key _ ht]; have h2 := Option.some.inj h; rw [← h2]; cases want <;> rfl
    ·rename_i ht; show (yielded os.toArray a.tmps j == some want) = b; rw [key _ ht]; have h2 := Option.some.inj h; rw [← h2]; cases want <;> rfl
    ·rename_i vs ht
     have := he.get d _ ht
     have hy : yielded os.toArray a.tmps j = none := by
      have h2 : a.tmps.getD d undef = .tuple vs := this
      rw [Array.getD_eq_getD_getElem?] at h2
      cases hx : a.tmps[d]? with
      | none => simp [yielded, hq, hd, hx]
      | some y => rw [hx] at h2; simp at h2; subst h2; simp [yielded, hq, hd, hx]
     show (yielded os.toArray a.tmps j == some want) = b
     rw [hy]
     have h2 := Option.some.inj h
     rw [← h2]
     cases want <;> rfl
    ·cases h
   ·cases h
  ·cases h
theorem At.run {R : Res} {l : List HProp} {Q : Exit → Act → World → Prop} {os : List Oper} : ∀ (k : Nat) {rest rest' : List Oper} {env env' : List (Nat × Value)},
 runP P n os k rest env = some (rest', env') → At n ds R env' l (wpList P os.toArray Q rest') → At n ds R env l (wpList P os.toArray Q rest)
 | 0, rest, rest', env, env', h, hh => by
  simp only [runP, Option.some.injEq, Prod.mk.injEq] at h
  obtain ⟨rfl, rfl⟩ := h
  exact hh
 | k + 1, [], _, _, _, h, _ => by simp [runP] at h
 | k + 1, o :: rest, rest', env, env', h, hh => by
  simp only [runP] at h
  intro a w he hs
  split at h
  ·rename_i d hg hd
   split at h
   ·rename_i v hv hb
    have ih := At.run k h hh _ _ (he.put hb v) hs
    refine wpList_step fun K hK => ?_
    rw [if_pos (Q76 he hg)]
    unfold Oper.wp
    rw [pv_ok he hv]
    show K (a.put o.dst v) w
    rw [hd]
    exact hK _ _ ih
   ·cases h
  ·rename_i d hg hd
   split at h
   ·rename_i hb
    have ih := At.run k h hh _ _ (he.put hb undef) hs
    refine wpList_step fun K hK => ?_
    rw [if_neg (by rw [Q76 he hg]; simp), hd]
    exact hK _ _ ih
   ·cases h
  ·rename_i hg hd
   have ih := At.run k h hh _ _ he hs
   refine wpList_step fun K hK => ?_
   rw [if_neg (by rw [Q76 he hg]; simp), hd]
   exact hK _ _ ih
  ·cases h
def Y (P : Program) (n : Nat) (ds : List Deferred) (R : Res) (env : List (Nat × Value)) (l : List HProp) (o : Oper) (v : Value) : Prop :=
 ∀ a w, Env n ds env a → sat R l w → (execOp a.eval o).run P w = .ok (.value v) w
def At.Still (P : Program) (n : Nat) (ds : List Deferred) (R : Res) (env : List (Nat × Value)) (l : List HProp) (os rest : List Oper) (K : Act → World → Prop) : Prop :=
 At n ds R env l (fun a w => wpStill P os.toArray w (fun a' => K a' w) rest a)
def At.Quiet (P : Program) (n : Nat) (ds : List Deferred) (R : Res) (env : List (Nat × Value)) (l : List HProp) (os rest : List Oper) (K : Act → World → Prop) : Prop :=
 ∀ a, Env n ds env a → wpQuiet P os.toArray (sat R l) (fun a' => ∀ w', sat R l w' → K a' w') rest a
section
variable {R : Res} {l : List HProp} {Q : Exit → Act → World → Prop} {K : Act → World → Prop} {os rest : List Oper} {o : Oper} {d : Nat} {v : Value}
theorem At.y (h : Y P n ds R env l o v) (hg : grd os env o.guard = some true) (hdst : o.dst = some d) (hd : Nat.blt d n = true) (k : At n ds R ((d, v) :: env) l (wpList P os.toArray Q rest)) :
 At n ds R env l (wpList P os.toArray Q (o :: rest)) := fun a w e hs => by
 refine wpList_step fun K hK => ?_
 rw [if_pos (Q76 e hg)]
 unfold Oper.wp
 rw [h a w e hs]
 show K (a.put o.dst v) w
 rw [hdst]
 exact hK _ _ (k _ _ (e.put hd v) hs)
theorem At.Still.y (h : Y P n ds R env l o v) (hg : grd os env o.guard = some true) (hdst : o.dst = some d) (hd : Nat.blt d n = true) (k : At.Still P n ds R ((d, v) :: env) l os rest K) :
 At.Still P n ds R env l os (o :: rest) K := fun a w e hs => by
 refine wpStill_step fun K' hK => ?_
 rw [if_pos (Q76 e hg)]
 unfold Oper.still
 rw [h a w e hs, Oper.stillUpon_value, hdst]
 exact hK _ (k _ _ (e.put hd v) hs)
theorem At.Quiet.y (h : Y P n ds R env l o v) (hg : grd os env o.guard = some true) (hdst : o.dst = some d) (hd : Nat.blt d n = true) (k : At.Quiet P n ds R ((d, v) :: env) l os rest K) :
 At.Quiet P n ds R env l os (o :: rest) K := fun a e => by
 refine wpQuiet_step fun K' hK => ?_
 rw [if_pos (Q76 e hg)]
 refine ⟨v, fun w hs => ?_, by rw [hdst]; exact hK _ (k _ (e.put hd v))⟩
 unfold Oper.quietAt
 rw [h a w e hs]
 exact ⟨rfl, rfl⟩
theorem At.Still.nil (k : At n ds R env l K) : At.Still P n ds R env l os [] K := fun a w e hs => wpStill_nil (k a w e hs)
theorem At.Quiet.nil (k : At n ds R env l K) : At.Quiet P n ds R env l os [] K := fun a e => wpQuiet_nil fun w hs => k a w e hs
theorem At.Still.run : ∀ (k : Nat) {rest rest' : List Oper} {env env' : List (Nat × Value)},
 runP P n os k rest env = some (rest', env') → At.Still P n ds R env' l os rest' K → At.Still P n ds R env l os rest K
 | 0, rest, rest', env, env', h, hh => by
  simp only [runP, Option.some.injEq, Prod.mk.injEq] at h
  obtain ⟨rfl, rfl⟩ := h
  exact hh
 | k + 1, [], _, _, _, h, _ => by simp [runP] at h
 | k + 1, o :: rest, rest', env, env', h, hh => by
  simp only [runP] at h
  split at h
  ·rename_i d hg hd
   split at h
   ·rename_i v hv hb
    exact At.Still.y (fun a w e _ => pv_ok e hv) hg hd hb (At.Still.run k h hh)
   ·cases h
  ·rename_i d hg hd
   split at h
   ·rename_i hb
    intro a w he hs
    refine wpStill_step fun K' hK => ?_
    rw [if_neg (by rw [Q76 he hg]; simp), hd]
    exact hK _ (At.Still.run k h hh _ _ (he.put hb undef) hs)
   ·cases h
  ·rename_i hg hd
   intro a w he hs
   refine wpStill_step fun K' hK => ?_
   rw [if_neg (by rw [Q76 he hg]; simp), hd]
   exact hK _ (At.Still.run k h hh _ _ he hs)
  ·cases h
theorem At.Quiet.run : ∀ (k : Nat) {rest rest' : List Oper} {env env' : List (Nat × Value)},
 runP P n os k rest env = some (rest', env') → At.Quiet P n ds R env' l os rest' K → At.Quiet P n ds R env l os rest K
 | 0, rest, rest', env, env', h, hh => by
  simp only [runP, Option.some.injEq, Prod.mk.injEq] at h
  obtain ⟨rfl, rfl⟩ := h
  exact hh
 | k + 1, [], _, _, _, h, _ => by simp [runP] at h
 | k + 1, o :: rest, rest', env, env', h, hh => by
  simp only [runP] at h
  split at h
  ·rename_i d hg hd
   split at h
   ·rename_i v hv hb
    exact At.Quiet.y (fun a w e _ => pv_ok e hv) hg hd hb (At.Quiet.run k h hh)
   ·cases h
  ·rename_i d hg hd
   split at h
   ·rename_i hb
    intro a he
    refine wpQuiet_step fun K' hK => ?_
    rw [if_neg (by rw [Q76 he hg]; simp), hd]
    exact hK _ (At.Quiet.run k h hh _ (he.put hb undef))
   ·cases h
  ·rename_i hg hd
   intro a he
   refine wpQuiet_step fun K' hK => ?_
   rw [if_neg (by rw [Q76 he hg]; simp), hd]
   exact hK _ (At.Quiet.run k h hh _ he)
  ·cases h
theorem At.know {t : Nat} {b c : Bool} (hx : look env t = some (.bool b)) (hb : b = c) (k : At n ds R ((t, .bool c) :: env) l K) : At n ds R env l K := fun a w e hs =>
 k a w ⟨e.size, e.defs, fun t' v' hv => by
  unfold look at hv
  split at hv
  ·rename_i hbq
   have : t = t' := Nat.eq_of_beq_eq_true hbq
   subst this
   cases hv
   rw [← hb]; exact e.get _ _ hx
  ·exact e.get _ _ hv⟩ hs
theorem At.Quiet.know {t : Nat} {b c : Bool} (hx : look env t = some (.bool b)) (hb : b = c) (k : At.Quiet P n ds R ((t, .bool c) :: env) l os rest K) : At.Quiet P n ds R env l os rest K := fun a e =>
 k a ⟨e.size, e.defs, fun t' v' hv => by
  unfold look at hv
  split at hv
  ·rename_i hbq
   have : t = t' := Nat.eq_of_beq_eq_true hbq
   subst this
   cases hv
   rw [← hb]; exact e.get _ _ hx
  ·exact e.get _ _ hv⟩
class Mixed (P : Program) : Prop where
 mixed : P.follows .mixedOrders = true
theorem At.quiet [Mixed P] {id : Nat} {os : List Oper} (hB : Region.lexB .any os.toArray = true) (k : At.Quiet P n ds R env l os os (Q .normal)) : At n ds R env l ((Code.region id os.toArray true).wp P Q) := fun a w e hs =>
 wp_region_quiet (C := sat R l) Mixed.mixed hB hs.drew (by simpa using k a e)
theorem At.still [Mixed P] {id : Nat} {os : List Oper} (m : Nat) (hB : Region.lexTailB .any os.toArray m = true) (k : At.Still P n ds R env l os (os.take m) (wpList P os.toArray Q (os.drop m))) :
 At n ds R env l ((Code.region id os.toArray true).wp P Q) := fun a w e hs =>
 wp_region_still_tail m Mixed.mixed hB (k a _ e hs.drew)
end
end
end Go.Bw
namespace Go.Bw
open Go Go.RowKit

inductive Put : List Value → Nat → List Value → List Value → Prop
 | n {cs} : Put cs 0 [] cs
 | c {c cs v vs cs'} : Put cs 0 vs cs' → Put (c :: cs) 0 (v :: vs) (v :: cs')
 | s {c cs k vs cs'} : Put cs k vs cs' → Put (c :: cs) (k + 1) vs (c :: cs')
theorem Put.eq {cs : List Value} {k : Nat} {vs cs' : List Value} (h : Put cs k vs cs') : k + vs.length ≤ cs.length ∧ cs' = cs.take k ++ vs ++ cs.drop (k + vs.length) := by
 induction h with
 | n => simp
 | c _ ih => obtain ⟨h1, h2⟩ := ih; simp at h1 ⊢; exact ⟨h1, by simpa using h2⟩
 | @s c cs k vs cs' _ ih =>
  obtain ⟨h1, h2⟩ := ih
  refine ⟨by simp; omega, ?_⟩
  rw [show k + 1 + vs.length = (k + vs.length) + 1 from by omega]
  simp [h2]
theorem Q114 (b off j : Nat) : (⟨b, off, none⟩ : Addr).add j = ⟨b, off + j, none⟩ := by unfold Addr.add; split <;> simp_all
theorem Q118 (a : Addr) (i j : Nat) : (a.add i).add j = a.add (i + j) := by
 unfold Addr.add
 by_cases hi : i = 0 <;> by_cases hj : j = 0 <;> simp [hi, hj, Nat.add_assoc]
theorem cell_of {w : World} {b : Nat} {cs : List Value} {t : Nat} {fr : Nat × Nat} (h : w.heap[b]? = some (.cells cs.toArray t fr)) (k : Nat) : w.cell? ⟨b, k, none⟩ = cs[k]? := by
 simp [World.cell?, h]
section
variable {P : Program} [Tys P] {w : World}
theorem Q170 {t : Nat} {i : TI} (hi : ti P t = some i) {a : Addr} {cs : List Value} {v : Value} (hl : cs.length = i.size) (hc : ∀ j u, cs[j]? = some u → w.cell? (a.add j) = some u) (hv : partOf P t 0 cs = some v) :
 (loadVar t a).run P w = .ok v w := by
 have ok := Q13 hi
 unfold partOf at hv
 rw [hi] at hv
 simp only [loadVar, Sem.run_bind, ok.run_isAgg, Result.andThen]
 cases hg : agg i.k with
 | true =>
  simp only [hg] at hv
  cases hv
  have := run_loadCells_list (P := P) w a cs hc
  simp only [if_true, Sem.run_bind, ok.run_sizeOf, Result.andThen, ← hl, this, Sem.run_pure]
  simp
 | false =>
  simp only [hg] at hv
  have := hc 0 v hv
  rw [show a.add 0 = a from rfl] at this
  simp only [Bool.false_eq_true, if_false, run_load, this]
theorem Q296 {t : Nat} {i : TI} (hi : ti P t = some i) {b off e : Nat} {cur vs : List Value} {v : Value} (hb : w.heap[b]? = some (.cells cur.toArray e)) (hv : v.cells = vs.toArray) (hs : vs.length = i.size)
 (hf : off + vs.length ≤ cur.length) (h1 : ∀ u ∈ vs, u.oneCell' = true) : (storeVar t ⟨b, off, none⟩ v).run P w = .ok () (w.setRow b (cur.take off ++ vs ++ cur.drop (off + vs.length)).toArray) := by
 have ok := Q13 hi
 have hst := run_storeCells_at P b off e vs 0 cur.toArray w hb (by simpa using hf) h1
 simp only [Nat.add_zero] at hst
 simp only [storeVar, Sem.run_bind, ok.run_sizeOf, Result.andThen, hv, List.size_toArray, ne_eq, Sem.run_ite]
 rw [if_neg (by simp [hs])]
 exact hst
theorem sat.setRow {R : Res} {b e : Nat} {cur new : List Value} {l : List HProp} (h : sat R (Bw.pt b (.cells cur.toArray e) :: l) w) : sat R (Bw.pt b (.cells new.toArray e) :: l) (w.setRow b new.toArray) :=
 h.modify rfl rfl rfl (Nat.le_refl _) (setRow_heap w b _ _ _ _ h.pt) (fun x hx => setRow_other w b x _ hx)
end
section
variable {P : Program} [Tys P] {os : List Oper} {Q : Exit → Act → World → Prop} {rest : List Oper} {n : Nat} {ds : List Deferred} {R : Res} {env : List (Nat × Value)} {l l' : List HProp}
variable {d ty : Nat} {pos : String} {af : Array Edge} {g : Option (Nat × Bool)}
theorem Q88 {o : Oper} {d : Nat} (hg : grd os env o.guard = some true) (hdst : o.dst = some d) (hd : Nat.blt d n = true)
 (h : ∀ a w, Env n ds env a → sat R l w → ∃ v w' l', (execOp a.eval o).run P w = .ok (.value v) w' ∧ sat R l' w' ∧ At n ds R ((d, v) :: env) l' (wpList P os.toArray Q rest)) :
 At n ds R env l (wpList P os.toArray Q (o :: rest)) := fun a w e hs => by
 refine wpList_step fun K hK => ?_
 rw [if_pos (Q76 e hg)]
 obtain ⟨v, w', l', hr, hs', k⟩ := h a w e hs
 unfold Oper.wp
 rw [hr]
 show K (a.put o.dst v) w'
 rw [hdst]
 exact hK _ _ (k _ _ (e.put hd v) hs')
theorem op_sk {o : Oper} (hg : grd os env o.guard = some true) (hdst : o.dst = none)
 (h : ∀ a w, Env n ds env a → sat R l w → ∃ w' l', (execOp a.eval o).run P w = .ok .skip w' ∧ sat R l' w' ∧ At n ds R env l' (wpList P os.toArray Q rest)) :
 At n ds R env l (wpList P os.toArray Q (o :: rest)) := fun a w e hs => by
 refine wpList_step fun K hK => ?_
 rw [if_pos (Q76 e hg)]
 obtain ⟨w', l', hr, hs', k⟩ := h a w e hs
 unfold Oper.wp
 rw [hr]
 show K (a.put o.dst undef) w'
 rw [hdst]
 exact hK _ _ (k _ _ e hs')
theorem At.alloc {t : Nat} {i : TI} (hg : grd os env g = some true) (hi : ti P t = some i) (hd : Nat.blt d n = true)
 (h : ∀ b, At n ds R ((d, .pointer (some ⟨b, 0, none⟩)) :: env) (pt b (.cells i.zero.toArray t) :: l) (wpList P os.toArray Q rest)) :
 At n ds R env l (wpList P os.toArray Q (⟨some d, .alloc t, ty, pos, af, g⟩ :: rest)) := Q88 hg rfl hd fun a w e hs => by
 obtain ⟨x, z, hx, h1, h2, hz, hc⟩ := (Q13 hi).info
 refine ⟨_, _, _, ?_, hs.alloc (.cells i.zero.toArray t), h _⟩
 simp [execOp, Instr.alloc, zeroValue, typeInfo, hx, hz, newVar, newRow, hc]
theorem At.box {t : Nat} {x : Operand} {v : Value} {cs : List Value} (hg : grd os env g = some true) (hx : ev env x = some v) (hc : v.cells.toList = cs) (hd : Nat.blt d n = true)
 (h : ∀ b, At n ds R ((d, .pointer (some ⟨b, 0, none⟩)) :: env) (pt b (.cells cs.toArray t) :: l) (wpList P os.toArray Q rest)) :
 At n ds R env l (wpList P os.toArray Q (⟨some d, .box t x, ty, pos, af, g⟩ :: rest)) := Q88 hg rfl hd fun a w e hs => by
 refine ⟨_, _, _, ?_, hs.alloc (.cells cs.toArray t), h _⟩
 simp [execOp, Instr.box, newVar, newRow, e.ev hx, ← hc]
theorem Q190 {t off : Nat} {i : TI} {cs : List Value} {v : Value} (hi : ti P t = some i) (hz : Nat.blt 0 i.size = true) (hv : partOf P t off cs = some v) : partOf P t 0 ((cs.drop off).take i.size) = some v := by
 have hz' : 0 < i.size := by simpa using hz
 unfold partOf at hv ⊢
 rw [hi] at hv ⊢
 cases hg : agg i.k with
 | true => simp only [hg] at hv ⊢; rw [← hv]; simp [List.take_take]
 | false =>
  simp only [hg] at hv ⊢
  have hoff := (List.getElem?_eq_some_iff.1 hv).1
  rw [List.getElem?_take, if_pos hz', List.getElem?_drop, ← hv]
  simp
theorem Q185 {cs : List Value} {off m j : Nat} {u : Value} (hu : ((cs.drop off).take m)[j]? = some u) : cs[off + j]? = some u := by
 have hj : j < m := by
  have := (List.getElem?_eq_some_iff.1 hu).1
  simp at this
  omega
 rw [List.getElem?_take, if_pos hj, List.getElem?_drop] at hu
 exact hu
theorem Y.load {t b off e : Nat} {i : TI} {x : Operand} {cs : List Value} {v : Value} {dd : Option Nat} (hi : ti P t = some i) (hx : ev env x = some (.pointer (some ⟨b, off, none⟩))) (f : Frt l (pt b (.cells cs.toArray e)) l')
 (hl : Nat.ble (off + i.size) cs.length = true) (hz : Nat.blt 0 i.size = true) (hv : partOf P t off cs = some v) :
 Y P n ds R env l ⟨dd, .load t x, ty, pos, af, g⟩ v := fun a w e hs => by
 have hb := (hs.frt f).pt
 have hl' : off + i.size ≤ cs.length := by simpa using hl
 have := Q170 (P := P) (w := w) (a := ⟨b, off, none⟩) (cs := (cs.drop off).take i.size) (v := v) hi (by simp; omega) (fun j u hu => by
  rw [Q114, cell_of hb]; exact Q185 hu) (Q190 hi hz hv)
 simp only [execOp, e.ev hx, Instr.loadAt, Instr.sureAddr, Sem.run_bind, Sem.run_pure, Result.andThen, this]
theorem At.store {t b off e : Nat} {i : TI} {x y : Operand} {cs vs cs' : List Value} {v : Value} (hg : grd os env g = some true) (hi : ti P t = some i) (hx : ev env x = some (.pointer (some ⟨b, off, none⟩))) (hy : ev env y = some v) (f : Frt l (pt b (.cells cs.toArray e)) l')
 (hv : v.cells.toList = vs) (hs : Nat.beq vs.length i.size = true) (h1 : vs.all (·.oneCell') = true) (p : Put cs off vs cs') (h : At n ds R env (pt b (.cells cs'.toArray e) :: l') (wpList P os.toArray Q rest)) :
 At n ds R env l (wpList P os.toArray Q (⟨none, .store t x y, ty, pos, af, g⟩ :: rest)) := op_sk hg rfl fun a w e0 hs0 => by
 obtain ⟨p1, p2⟩ := p.eq
 have hs1 := hs0.frt f
 have hvc : v.cells = vs.toArray := by rw [← hv]
 have := Q296 (P := P) (w := w) hi (off := off) hs1.pt hvc (by simpa using hs) p1 (by simpa using h1)
 refine ⟨_, _, ?_, hs1.setRow, h⟩
 rw [p2]
 simp only [execOp, e0.ev hx, e0.ev hy, Instr.storeAt, Instr.sureAddr, Sem.run_bind, Sem.run_pure, Result.andThen, this]

def own (e sz : Nat) (A : Option Addr) (n c : Nat) (xs : List Value) : HProp := fun h =>
 xs.length = n * sz ∧ ((A = none ∧ n = 0 ∧ c = 0) ∨ ∃ g cur, A = some ⟨g, 0, none⟩ ∧ h g = some (.cells cur e) ∧ n ≤ c ∧ c ≤ maxLen ∧ cur.size = c * sz ∧ cur.toList.take (n * sz) = xs)
theorem Q254 {e sz : Nat} {A : Option Addr} {m c : Nat} {xs : List Value} {h : PHeap} {w : World} (o : own e sz A m c xs h) (s : Sub h (wh w)) : w.ownsRow 0 e sz (.slice A m c) m xs := by
 obtain ⟨h1, h2⟩ := o
 refine ⟨h1, ?_⟩
 rcases h2 with ⟨rfl, rfl, rfl⟩ | ⟨g, cur, rfl, hg, h3, h4, h5, h6⟩
 ·exact .inl ⟨rfl, rfl⟩
 ·exact .inr ⟨g, c, cur, rfl, Nat.zero_le _, s g _ hg, h3, h4, h5, h6⟩
theorem world_own {e sz : Nat} {v : Value} {m : Nat} {xs : List Value} {w : World} (o : w.ownsRow 0 e sz v m xs) : ∃ A c, v = .slice A m c ∧ ∀ h : PHeap, (∀ g, A = some ⟨g, 0, none⟩ → h g = w.heap[g]?) → own e sz A m c xs h := by
 obtain ⟨h1, h2⟩ := o
 rcases h2 with ⟨rfl, rfl⟩ | ⟨g, cap, cur, rfl, _, hg, h3, h4, h5, h6⟩
 ·exact ⟨none, 0, rfl, fun h _ => ⟨h1, .inl ⟨rfl, rfl, rfl⟩⟩⟩
 ·exact ⟨_, cap, rfl, fun h hh => ⟨h1, .inr ⟨g, cur, rfl, by rw [hh g rfl]; exact hg, h3, h4, h5, h6⟩⟩⟩
theorem sat.grown {e sz m m' c : Nat} {A : Option Addr} {xs ys : List Value} {v' : Value} {w w' : World} (hs : sat R (own e sz A m c xs :: l) w) (hg : w.grownBy w' (Value.slice A m c).ownBlock) (hd : w.drawn ≤ w'.drawn) (ho : w'.ownsRow 0 e sz v' m' ys)
 (hb : v'.ownBlock = (Value.slice A m c).ownBlock ∨ ∃ b, v'.ownBlock = some b ∧ w.heap.size ≤ b) : ∃ A' c', v' = .slice A' m' c' ∧ sat R (own e sz A' m' c' ys :: l) w' := by
 obtain ⟨A', c', rfl, hown⟩ := world_own ho
 refine ⟨A', c', rfl, ?_⟩
 obtain ⟨h1, a, s, k⟩ := hs.upd
 have hne : ∀ x o, w.heap[x]? = some o → h1 x = none → some x ≠ (Value.slice A m c).ownBlock := by
  intro x o hx hn he
  obtain ⟨_, h2⟩ := a
  rcases h2 with ⟨rfl, _, _⟩ | ⟨g, cur, rfl, hgg, _⟩
  ·simp [Value.ownBlock] at he
  ·simp [Value.ownBlock] at he
   subst he
   rw [hgg] at hn
   cases hn
 cases A' with
 | none =>
  refine k _ (fun _ => none) w' (hown _ (fun g hg => by cases hg)) hg.os hg.tape hg.output hd (fun x o hx hn => ?_) (fun _ _ e => by cases e) (fun _ _ e => by cases e)
  rw [hg.block x (Array.getElem?_eq_some_iff.1 hx).1 (hne x o hx hn)]; exact hx
 | some ad =>
  have hlt : ad.block < w'.heap.size := (ho.lt ad.block rfl).2
  refine k _ (fun x => if x = ad.block then w'.heap[ad.block]? else none) w' (hown _ (fun g hg => by cases hg; simp)) hg.os hg.tape hg.output hd (fun x o hx hn => ?_) (fun x o e => ?_) (fun x o e => ?_)
  ·rw [hg.block x (Array.getElem?_eq_some_iff.1 hx).1 (hne x o hx hn)]; exact hx
  ·dsimp only at e
   split at e
   ·rename_i hx; subst hx; exact e
   ·cases e
  ·split at e
   ·rename_i hx
    subst hx
    rcases hb with hb | ⟨b, hb, hle⟩
    ·left
     obtain ⟨_, h2⟩ := a
     rcases h2 with ⟨rfl, _, _⟩ | ⟨g, cur, rfl, hgg, _⟩
     ·simp [Value.ownBlock] at hb
     ·simp [Value.ownBlock] at hb
      rw [hb]
      exact ⟨_, hgg⟩
    ·right
     simp [Value.ownBlock] at hb
     subst hb
     simp; omega
   ·cases e
end
end Go.Bw
namespace Go.Bw
open Go Go.RowKit

structure Fl (α : Type) where
 sz : Nat
 enc : α → List Value
 len : ∀ x, (enc x).length = sz
 one : ∀ x, ∀ u ∈ enc x, u.oneCell' = true
 pos : 0 < sz
def Fl.int (k : IntKind) : Fl Int := ⟨1, fun x => [.int k x], fun _ => rfl, fun _ u hu => by simp at hu; subst hu; rfl, by decide⟩
def Fl.bool : Fl Bool := ⟨1, fun x => [.bool x], fun _ => rfl, fun _ u hu => by simp at hu; subst hu; rfl, by decide⟩
def gt {α : Type} [Inhabited α] (xs : List α) (i : Int) : α := xs.getD i.toNat default
def st {α : Type} (xs : List α) (i : Int) (x : α) : List α := xs.set i.toNat x
theorem Q98 {α : Type} [Inhabited α] {xs : List α} {i : Int} (h0 : 0 ≤ i) (h1 : i < (xs.length : Int)) : xs[i.toNat]? = some (gt xs i) := by
 have h : i.toNat < xs.length := by omega
 simp [gt, List.getD_eq_getElem?_getD, List.getElem?_eq_getElem h]
theorem Q78 {α : Type} (F : Fl α) (xs : List α) : (xs.flatMap F.enc).length = xs.length * F.sz := by
 induction xs with
 | nil => simp
 | cons x xs ih => simp [ih, F.len, Nat.add_mul, Nat.add_comm]
theorem Q161 {α : Type} (F : Fl α) : ∀ {xs : List α} {i : Nat} {x : α} {j : Nat}, xs[i]? = some x → j < F.sz → (xs.flatMap F.enc)[i * F.sz + j]? = (F.enc x)[j]?
 | [], _, _, _, h, _ => by simp at h
 | y :: xs, 0, x, j, h, hj => by
  simp at h
  subst h
  rw [List.flatMap_cons, Nat.zero_mul, Nat.zero_add, List.getElem?_append_left (by rw [F.len]; exact hj)]
 | y :: xs, i + 1, x, j, h, hj => by
  rw [List.flatMap_cons, List.getElem?_append_right (by rw [F.len, Nat.add_mul]; omega), F.len, show (i + 1) * F.sz + j - F.sz = i * F.sz + j from by rw [Nat.add_mul]; omega]
  exact Q161 F (by simpa using h) hj
theorem Q239 {α : Type} (F : Fl α) (xs : List α) : ∀ u ∈ xs.flatMap F.enc, u.oneCell' = true := fun u hu => by
 obtain ⟨x, _, h⟩ := List.mem_flatMap.1 hu
 exact F.one x u h
theorem Q250 {α : Type} (F : Fl α) : ∀ {xs : List α} {i : Nat} {x y : α}, xs[i]? = some x → (xs.set i y).flatMap F.enc = (xs.flatMap F.enc).take (i * F.sz) ++ F.enc y ++ (xs.flatMap F.enc).drop (i * F.sz + F.sz)
 | [], _, _, _, h => by simp at h
 | z :: xs, 0, x, y, h => by
  simp only [List.set_cons_zero, List.flatMap_cons, Nat.zero_mul, List.take_zero, List.nil_append, Nat.zero_add]
  rw [List.drop_append_of_le_length (by rw [F.len]; omega), List.drop_of_length_le (by rw [F.len]; omega), List.nil_append]
 | z :: xs, i + 1, x, y, h => by
  simp only [List.set_cons_succ, List.flatMap_cons]
  have ih := Q250 F (x := x) (y := y) (xs := xs) (i := i) (by simpa using h)
  rw [ih, show (i + 1) * F.sz = (F.enc z).length + i * F.sz from by rw [F.len, Nat.add_mul]; omega, Nat.add_assoc]
  simp [List.take_append, List.drop_append, List.take_of_length_le]

theorem put_take {α : Type} (cur vs : List α) (N base q sz : Nat) (h1 : base + sz ≤ N) (h2 : N ≤ cur.length) (h3 : q + vs.length ≤ sz) :
 (cur.take (base + q) ++ vs ++ cur.drop (base + q + vs.length)).take N = (cur.take N).take base ++ (((cur.drop base).take sz).take q ++ vs ++ ((cur.drop base).take sz).drop (q + vs.length)) ++ (cur.take N).drop (base + sz) := by
 obtain ⟨p, c1, rfl, hp⟩ : ∃ p c1, cur = p ++ c1 ∧ p.length = base := ⟨cur.take base, cur.drop base, by simp, by simp; omega⟩
 obtain ⟨e1, c2, rfl, he1⟩ : ∃ p c, c1 = p ++ c ∧ p.length = q := ⟨c1.take q, c1.drop q, by simp, by simp at h2 ⊢; omega⟩
 obtain ⟨e2, c3, rfl, he2⟩ : ∃ p c, c2 = p ++ c ∧ p.length = vs.length := ⟨c2.take vs.length, c2.drop vs.length, by simp, by simp at h2 ⊢; omega⟩
 obtain ⟨e3, c4, rfl, he3⟩ : ∃ p c, c3 = p ++ c ∧ p.length = sz - (q + vs.length) := ⟨c3.take (sz - (q + vs.length)), c3.drop (sz - (q + vs.length)), by simp, by simp at h2 ⊢; omega⟩
 subst hp he1
 have e : sz = e1.length + (vs.length + e3.length) := by omega
 subst e
 have hN : ∃ m, N = p.length + (e1.length + (vs.length + (e3.length + m))) := ⟨N - (p.length + (e1.length + (vs.length + e3.length))), by omega⟩
 obtain ⟨m, rfl⟩ := hN
 simp [List.take_append, List.drop_append, ← he2, List.take_of_length_le, List.drop_of_length_le, Nat.add_sub_cancel_left, Nat.add_assoc]

def row {α : Type} (F : Fl α) (e : Nat) (A : Option Addr) (n c : Nat) (xs : List α) : HProp := own e F.sz A n c (xs.flatMap F.enc)
theorem Q97 {α : Type} {F : Fl α} {e : Nat} {A : Option Addr} {n c : Nat} {xs : List α} {h : PHeap} (o : row F e A n c xs h) : xs.length = n := by
 have := o.1
 rw [Q78] at this
 exact Nat.eq_of_mul_eq_mul_right F.pos this
theorem Q172 {α : Type} {F : Fl α} {e : Nat} {A : Option Addr} {c : Nat} {xs : List α} {h : PHeap} (o : row F e A xs.length c xs h) (hn : 0 < xs.length) :
 ∃ g cur, A = some ⟨g, 0, none⟩ ∧ h g = some (.cells cur e) ∧ xs.length ≤ c ∧ c ≤ maxLen ∧ cur.size = c * F.sz ∧ cur.toList.take (xs.length * F.sz) = xs.flatMap F.enc := by
 rcases o.2 with ⟨_, h0, _⟩ | h
 ·omega
 ·exact h
def elp (A : Option Addr) (k : Nat) : Value := match A with
 | some ad => .pointer (some (ad.add k))
 | none => .pointer none

section
variable {α : Type} [Inhabited α] {F : Fl α} {e : Nat} {A : Option Addr} {c : Nat} {xs : List α} {w : World}
theorem Q272 {h : PHeap} (o : row F e A xs.length c xs h) (s : Sub h (wh w)) {i : Int} (h0 : 0 ≤ i) (h1 : i < (xs.length : Int)) :
 ∃ ad, A = some ad ∧ ∀ j u, (F.enc (gt xs i))[j]? = some u → w.cell? ((ad.add (i.toNat * F.sz)).add j) = some u := by
 obtain ⟨g, cur, rfl, hg, h3, h4, h5, h6⟩ := Q172 o (by omega)
 refine ⟨_, rfl, fun j u hu => ?_⟩
 have hj : j < F.sz := by rw [← F.len (gt xs i)]; exact (List.getElem?_eq_some_iff.1 hu).1
 rw [Q118, Q114, Nat.zero_add]
 have hc : w.cell? ⟨g, i.toNat * F.sz + j, none⟩ = cur[i.toNat * F.sz + j]? := by
  have := s g _ hg
  simp only [wh] at this
  simp [World.cell?, this]
 have hf := Q161 F (Q98 h0 h1) hj
 rw [← h6, List.getElem?_take] at hf
 have hlt : i.toNat * F.sz + j < xs.length * F.sz := by
  have : (i.toNat + 1) * F.sz ≤ xs.length * F.sz := Nat.mul_le_mul_right _ (by omega)
  rw [Nat.add_mul] at this
  omega
 rw [if_pos hlt] at hf
 rw [hc, ← hu, ← hf]
 simp
theorem Q271 {R : Res} {l : List HProp} (hs : sat R (row F e A xs.length c xs :: l) w) {i : Int} (h0 : 0 ≤ i) (h1 : i < (xs.length : Int)) : ∃ ad, A = some ad := by
 obtain ⟨h, o, s⟩ := hs.head
 obtain ⟨ad, e, _⟩ := Q272 o s h0 h1
 exact ⟨ad, e⟩
end
section
variable {P : Program} [Tys P] {os : List Oper} {Q : Exit → Act → World → Prop} {rest : List Oper} {n : Nat} {ds : List Deferred} {R : Res} {env : List (Nat × Value)} {l l' : List HProp}
variable {d ty : Nat} {pos : String} {af : Array Edge} {g : Option (Nat × Bool)} {α : Type} [Inhabited α] {F : Fl α} {e t : Nat} {A : Option Addr} {c : Nat} {xs : List α} {K : Act → World → Prop}
theorem Q158 {c : HProp} {l : List HProp} {h : PHeap} (hc : c (fun _ => none)) (s : stars l h) : stars (c :: l) h :=
 ⟨fun _ => none, h, hc, s, fun _ _ _ e => by (cases e), fun _ _ e => by (cases e), Sub.refl _⟩
theorem At.nilRow (F : Fl α) (e : Nat) (h : At n ds R env (row F e none 0 0 [] :: l) K) : At n ds R env l K := fun a w e0 hs => h a w e0 (by
 obtain ⟨ok, k, s, d⟩ := hs
 exact ⟨ok, k, Q158 ⟨by simp, .inl ⟨rfl, by simp, rfl⟩⟩ s, d⟩)
theorem Y.ixOwn (f : Frt l (row F e A xs.length c xs) l') {x y : Operand} {i : Int} {k : IntKind} {ii : TI} {dd : Option Nat} (hi : ti P t = some ii) (hk : ii.k = .slice e) (hx : ev env x = some (.slice A xs.length c)) (hy : ev env y = some (.int k i))
 {j : TI} (hj : ti P e = some j) (hjs : j.size = F.sz) (h0 : 0 ≤ i) (h1 : i < (xs.length : Int)) :
 Y P n ds R env l ⟨dd, .indexAddr t x y, ty, pos, af, g⟩ (elp A (i.toNat * F.sz)) := fun a w e0 hs => by
 obtain ⟨ad, rfl⟩ := Q271 (hs.frt f) h0 h1
 simp only [execOp, e0.ev hx, e0.ev hy, Instr.indexAt, asIntOf, Sem.run_bind, Sem.run_pure, Result.andThen, run_underlying ((Q13 hi).slice hk), Sem.run_ite, if_pos (show 0 ≤ i ∧ i < (xs.length : Int) from ⟨h0, h1⟩), (Q13 hj).run_sizeOf, hjs, elp]
theorem Y.ldOwn (f : Frt l (row F e A xs.length c xs) l') {x : Operand} {i : Int} {q : Nat} {v : Value} {ii : TI} {dd : Option Nat} (hi : ti P t = some ii) (hx : ev env x = some (elp A (i.toNat * F.sz + q))) (h0 : 0 ≤ i) (h1 : i < (xs.length : Int))
 (hl : Nat.ble (q + ii.size) F.sz = true) (hz : Nat.blt 0 ii.size = true) (hv : partOf P t q (F.enc (gt xs i)) = some v) :
 Y P n ds R env l ⟨dd, .load t x, ty, pos, af, g⟩ v := fun a w e0 hs => by
 obtain ⟨h', o, s⟩ := (hs.frt f).head
 obtain ⟨ad, rfl, hc⟩ := Q272 o s h0 h1
 have hl' : q + ii.size ≤ F.sz := by simpa using hl
 have hlen := F.len (gt xs i)
 have := Q170 (P := P) (w := w) (a := ad.add (i.toNat * F.sz + q)) (cs := ((F.enc (gt xs i)).drop q).take ii.size) (v := v) hi (by simp; omega) (fun j u hu => by
  have := hc _ _ (Q185 hu)
  rw [Q118] at this ⊢
  rw [Nat.add_assoc]; exact this) (Q190 hi hz hv)
 simp only [execOp, e0.ev hx, elp, Instr.loadAt, Instr.sureAddr, Sem.run_bind, Sem.run_pure, Result.andThen, this]
theorem At.stOwn (f : Frt l (row F e A xs.length c xs) l') {x y : Operand} {i : Int} {q : Nat} {v : Value} {vs : List Value} {z : α} {ii : TI} (hg : grd os env g = some true) (hi : ti P t = some ii) (hx : ev env x = some (elp A (i.toNat * F.sz + q))) (hy : ev env y = some v)
 (h0 : 0 ≤ i) (h1 : i < (xs.length : Int)) (hv : v.cells.toList = vs) (hs : Nat.beq vs.length ii.size = true) (p : Put (F.enc (gt xs i)) q vs (F.enc z))
 (h : At n ds R env (row F e A xs.length c (st xs i z) :: l') (wpList P os.toArray Q rest)) :
 At n ds R env l (wpList P os.toArray Q (⟨none, .store t x y, ty, pos, af, g⟩ :: rest)) := op_sk hg rfl fun a w e0 hs0 => by
 have hs1 := hs0.frt f
 obtain ⟨h', o, s, k⟩ := hs1.upd
 obtain ⟨g, cur, rfl, hg, h3, h4, h5, h6⟩ := Q172 o (by omega)
 obtain ⟨p1, p2⟩ := p.eq
 rw [F.len] at p1
 have hvc : v.cells = vs.toArray := by rw [← hv]
 have hgw : w.heap[g]? = some (.cells cur e) := s g _ hg
 have hgw' : w.heap[g]? = some (.cells cur.toList.toArray e) := by rw [hgw]
 have hlt : i.toNat * F.sz + F.sz ≤ xs.length * F.sz := by
  have : (i.toNat + 1) * F.sz ≤ xs.length * F.sz := Nat.mul_le_mul_right _ (by omega)
  rw [Nat.add_mul] at this
  omega
 have hcap : xs.length * F.sz ≤ c * F.sz := Nat.mul_le_mul_right _ h3
 have hone : ∀ u ∈ vs, u.oneCell' = true := fun u hu => F.one z u (by rw [p2]; simp [hu])
 have hrun := Q296 (P := P) (w := w) hi (off := i.toNat * F.sz + q) hgw' hvc (by simpa using hs) (by simp; omega) hone
 refine ⟨w.setRow g (List.take (i.toNat * F.sz + q) cur.toList ++ vs ++ List.drop (i.toNat * F.sz + q + vs.length) cur.toList).toArray, _, ?_, ?_, h⟩
 ·simp only [execOp, e0.ev hx, e0.ev hy, elp, Q114, Nat.zero_add, Instr.storeAt, Instr.sureAddr, Sem.run_bind, Sem.run_pure, Result.andThen, hrun]
 ·have hnew := setRow_heap w g cur (List.take (i.toNat * F.sz + q) cur.toList ++ vs ++ List.drop (i.toNat * F.sz + q + vs.length) cur.toList).toArray e (0, 0) hgw
  have hll : (List.take (i.toNat * F.sz + q) cur.toList ++ vs ++ List.drop (i.toNat * F.sz + q + vs.length) cur.toList).length = cur.size := by simp; omega
  refine k _ (single g (.cells (List.take (i.toNat * F.sz + q) cur.toList ++ vs ++ List.drop (i.toNat * F.sz + q + vs.length) cur.toList).toArray e)) _ ?_ rfl rfl rfl (Nat.le_refl _) (fun x o' hx hn => ?_) (fun x o' hx => ?_) (fun x o' hx => ?_)
  ·have hsl : (st xs i z).length = xs.length := by simp [st]
   refine ⟨by rw [Q78, hsl], .inr ⟨g, _, rfl, Q216 _ _, h3, h4, by rw [List.size_toArray, hll, h5], ?_⟩⟩
   unfold st
   have hcl : cur.toList.length = c * F.sz := by simp [h5]
   have hf : (F.enc (gt xs i)) = (cur.toList.drop (i.toNat * F.sz)).take F.sz := by
    apply List.ext_getElem?
    intro j
    by_cases hj : j < F.sz
    ·rw [← Q161 F (Q98 h0 h1) hj, ← h6, List.getElem?_take, if_pos (by omega), List.getElem?_take, if_pos hj, List.getElem?_drop]
    ·rw [List.getElem?_eq_none (by rw [F.len]; omega), List.getElem?_eq_none (by simp; omega)]
   rw [Q250 F (Q98 h0 h1), ← h6, p2, hf]
   exact put_take cur.toList vs (xs.length * F.sz) (i.toNat * F.sz) q F.sz hlt (by omega) p1
  ·rw [setRow_other w g x _ (fun hxg => by subst hxg; rw [hg] at hn; cases hn)]; exact hx
  ·obtain ⟨rfl, rfl⟩ := Q119 hx; exact hnew
  ·obtain ⟨rfl, rfl⟩ := Q119 hx; exact .inl ⟨_, hg⟩
theorem row_take {h : PHeap} (o : row F e A xs.length c xs h) (k : Nat) (hk : k ≤ xs.length) : row F e A (xs.take k).length c (xs.take k) h := by
 obtain ⟨_, h2⟩ := o
 have hl : (xs.take k).length = k := by simp; omega
 refine ⟨Q78 F _, ?_⟩
 rw [hl]
 rcases h2 with ⟨rfl, h0, h1⟩ | ⟨g, cur, rfl, hg, h3, h4, h5, h6⟩
 ·exact .inl ⟨rfl, by omega, h1⟩
 ·refine .inr ⟨g, cur, rfl, hg, by omega, h4, h5, ?_⟩
  have hle : k * F.sz ≤ xs.length * F.sz := Nat.mul_le_mul_right _ hk
  have hft : (xs.take k).flatMap F.enc = (xs.flatMap F.enc).take (k * F.sz) := by
   conv => rhs; rw [← List.take_append_drop k xs, List.flatMap_append, List.take_append_of_le_length (by rw [Q78, hl]; omega), List.take_of_length_le (by rw [Q78, hl]; omega)]
  rw [hft, ← h6, List.take_take, Nat.min_eq_left hle]
theorem At.slTo (f : Frt l (row F e A xs.length c xs) l') {x y : Operand} {k : Int} {ki : IntKind} {ii : TI} (hg : grd os env g = some true) (hi : ti P t = some ii) (hk : ii.k = .slice e) {j : TI} (hj : ti P e = some j) (hx : ev env x = some (.slice A xs.length c)) (hy : ev env y = some (.int ki k))
 (h0 : 0 ≤ k) (h1 : k ≤ (xs.length : Int)) (hd : Nat.blt d n = true) (h : At n ds R ((d, .slice A (xs.take k.toNat).length c) :: env) (row F e A (xs.take k.toNat).length c (xs.take k.toNat) :: l') (wpList P os.toArray Q rest)) :
 At n ds R env l (wpList P os.toArray Q (⟨some d, .slice t x none (some y) none, ty, pos, af, g⟩ :: rest)) := Q88 hg rfl hd fun a w e0 hs => by
 have hs1 := hs.frt f
 have hc : xs.length ≤ c := by
  obtain ⟨h', o, s⟩ := hs1.head
  rcases o.2 with ⟨_, h0, h1⟩ | ⟨g, cur, _, _, h3, _⟩
  ·omega
  ·exact h3
 refine ⟨_, w, _, ?_, hs1.imp fun h' o => row_take o k.toNat (by omega), h⟩
 have hu := (Q13 hi).slice hk
 have hu' : P.underlying t = some (.slice (P.elem t)) := by rw [hu]; simp [Program.elem, hu]
 have he : P.elem t = e := by rw [hu] at hu'; injection hu' with h; injection h with h; exact h.symm
 have hr := run_slice_h (P := P) (w := w) t A xs.length c hu' ki k h0 (by omega)
 rw [he, (Q13 hj).run_sizeOf] at hr
 have hl : (xs.take k.toNat).length = k.toNat := by simp; omega
 simp only [execOp, e0.ev hx, e0.ev hy, Option.map_none, Option.map_some, Sem.run_bind, run_sliceAt_slice w t _ _ _ _ hu', hr, Result.andThen, Sem.run_pure, sliced, Nat.zero_mul, Nat.sub_zero, hl]
 congr 3
 cases A <;> simp [Addr.add]

def Src {α : Type} (R : Res) (F : Fl α) (l : List HProp) (A : Option Addr) (ys : List α) : Prop :=
 ∀ w, sat R l w → ∃ ad, A = some ad ∧ ∀ j u, (ys.flatMap F.enc)[j]? = some u → w.cell? (ad.add j) = some u
theorem Src.own {B : Option Addr} {cb : Nat} {ys : List α} (f : Frt l (row F e B ys.length cb ys) l') (hn : ys ≠ []) : Src R F l B ys := fun w hs => by
 obtain ⟨h, o, s⟩ := (hs.frt f).head
 have hp : 0 < ys.length := List.length_pos_iff.2 hn
 obtain ⟨g, cur, rfl, hg, h3, h4, h5, h6⟩ := Q172 o hp
 refine ⟨_, rfl, fun j u hu => ?_⟩
 rw [Q114, Nat.zero_add]
 have hgw := s g _ hg
 simp only [wh] at hgw
 rw [← h6] at hu
 rw [List.getElem?_take] at hu
 split at hu
 ·simpa [World.cell?, hgw] using hu
 ·cases hu
theorem At.app (f : Frt l (row F e A xs.length c xs) l') {x y : Operand} {B : Option Addr} {cb bytes : Nat} {ys : List α} {ii j : TI} (sr : Src R F l B ys) (hg : grd os env g = some true) (hi : ti P t = some ii) (hk : ii.k = .slice e) (hj : ti P e = some j) (hjs : j.size = F.sz) (hjb : j.bytes = bytes)
 (hx : ev env x = some (.slice A xs.length c)) (hy : ev env y = some (.slice B ys.length cb))
 (hz : j.zero.length = j.size) (hb : (xs.length + ys.length) * bytes ≤ 140737488355328) (hb0 : 0 < bytes) (hd : Nat.blt d n = true)
 (h : ∀ A' c', At n ds R ((d, .slice A' (xs ++ ys).length c') :: env) (row F e A' (xs ++ ys).length c' (xs ++ ys) :: l') (wpList P os.toArray Q rest)) :
 At n ds R env l (wpList P os.toArray Q (⟨some d, .call ⟨.builtin .append, #[x, y], #[t, t]⟩, ty, pos, af, g⟩ :: rest)) := Q88 hg rfl hd fun a w e0 hs => by
 obtain ⟨ad, rfl, hc⟩ := sr w hs
 have hs1 := hs.frt f
 obtain ⟨h', o, s⟩ := hs1.head
 obtain ⟨xi, z, hxi, hsz, hby, hze, hzc⟩ := (Q13 hj).info
 have hm : (xs.length + ys.length) ≤ maxLen := by
  have : xs.length + ys.length ≤ (xs.length + ys.length) * bytes := Nat.le_mul_of_pos_right _ hb0
  simp only [maxLen]; omega
 obtain ⟨v', w', hr, ho', hg, _, hob⟩ := run_append_own_at (P := P) w 0 t ty e xi z F.sz bytes ((Q13 hi).slice hk) hxi hze (by omega) (by omega) (by rw [hzc]; simp; omega) F.pos (.slice A xs.length c) xs.length (xs.flatMap F.enc) (Q254 o s) ad ys.length cb (ys.flatMap F.enc) (Q78 F ys) hc (Q239 F ys) hm hb (Nat.zero_le _)
 obtain ⟨A', c', rfl, hs2⟩ := hs1.grown hg (Q292 _ hr) ho' (hob.imp id fun e => ⟨_, e, Nat.le_refl _⟩)
 refine ⟨.slice A' (xs.length + ys.length) c', w', row F e A' (xs.length + ys.length) c' (xs ++ ys) :: l', ?_, ?_, ?_⟩
 ·simp only [execOp, resolve, invoke, builtin, Sem.run_bind, Sem.run_pure, Result.andThen_ok, List.map_toArray, List.map_cons, List.map_nil, e0.ev hx, e0.ev hy, hr]
 ·have : own e F.sz A' (xs.length + ys.length) c' (xs.flatMap F.enc ++ ys.flatMap F.enc) = row F e A' (xs.length + ys.length) c' (xs ++ ys) := by unfold row; rw [List.flatMap_append]
  rw [← this]; exact hs2
 ·have := h A' c'
  rwa [List.length_append] at this

theorem At.make {x y : Operand} {m : Int} {k k' : IntKind} {bytes : Nat} {z : α} {ii j : TI} (hg : grd os env g = some true) (hi : ti P t = some ii) (hk : ii.k = .slice e) (hj : ti P e = some j) (hjs : j.size = 1) (hF : F.sz = 1) (hjb : j.bytes = bytes) (hz : j.zero = F.enc z)
 (hx : ev env x = some (.int k m)) (hy : ev env y = some (.int k' m)) (h0 : 0 ≤ m) (h1 : (bytes : Int) * m ≤ 281474976710656) (hb0 : 0 < bytes) (hd : Nat.blt d n = true)
 (h : ∀ A c, At n ds R ((d, .slice A (List.replicate m.toNat z).length c) :: env) (row F e A (List.replicate m.toNat z).length c (List.replicate m.toNat z) :: l) (wpList P os.toArray Q rest)) :
 At n ds R env l (wpList P os.toArray Q (⟨some d, .makeSlice t x y, ty, pos, af, g⟩ :: rest)) := Q88 hg rfl hd fun a w e0 hs => by
 obtain ⟨xi, zv, hxi, hsz, hby, hze, hzc⟩ := (Q13 hj).info
 have hm : m ≤ 9223372036854775807 := by
  have := Int.mul_le_mul_of_nonneg_right (show (1 : Int) ≤ (bytes : Int) by omega) h0
  omega
 have hr := run_make (P := P) w t e xi zv ((Q13 hi).slice hk) hxi hze k k' m m h0 (Int.le_refl _) (by rw [hby, hjb]; exact h1) hm
 refine ⟨.slice (some ⟨w.heap.size, 0, none⟩) m.toNat m.toNat, w.alloc (.cells (madeCells zv.cells (m.toNat * xi.size)) e), row F e (some ⟨w.heap.size, 0, none⟩) m.toNat m.toNat (List.replicate m.toNat z) :: l, ?_, ?_, by have := h (some ⟨w.heap.size, 0, none⟩) m.toNat; rwa [List.length_replicate] at this⟩
 ·simp only [execOp, e0.ev hx, e0.ev hy, Sem.run_bind, hr, Result.andThen, Sem.run_pure]
 ·refine (hs.alloc _).imp fun h' o => ?_
  have hzl : ∃ u, F.enc z = [u] := by
   have := F.len z
   rw [hF] at this
   exact List.length_eq_one_iff.1 this
  obtain ⟨u, hu⟩ := hzl
  have hcells : (madeCells zv.cells (m.toNat * xi.size)).toList = (List.replicate m.toNat z).flatMap F.enc := by
   rw [hsz, hjs, Nat.mul_one, hzc, hz, hu]
   unfold madeCells
   simp only [Array.toList_map, Array.toList_range]
   apply List.ext_getElem?
   intro q
   by_cases hq : q < m.toNat
   ·have := Q161 F (xs := List.replicate m.toNat z) (i := q) (x := z) (j := 0) (by simp [hq]) F.pos
    rw [hF, Nat.mul_one, Nat.add_zero, hu] at this
    rw [this]
    simp [hq, Nat.mod_one]
   ·rw [List.getElem?_eq_none (by simp; omega), List.getElem?_eq_none (by rw [Q78]; simp [hF]; omega)]
  refine ⟨by rw [Q78, List.length_replicate], .inr ⟨w.heap.size, _, rfl, o, by simp, by simp only [maxLen]; omega, ?_, ?_⟩⟩
  ·simp [madeCells, hsz, hjs, hF]
  ·rw [hcells, List.take_of_length_le (by rw [Q78]; simp)]
theorem Q290 : ∀ (vs : List Value) (off k : Nat) (cs : List Value), off + k + vs.length ≤ cs.length →
 (vs.zipIdx k).foldl (fun (cs : Array Value) (p : Value × Nat) => cs.setIfInBounds (off + p.2) p.1) cs.toArray = (cs.take (off + k) ++ vs ++ cs.drop (off + k + vs.length)).toArray
 | [], off, k, cs, h => by simp
 | v :: vs, off, k, cs, h => by
  have hk : off + k < cs.length := by simp at h; omega
  rw [List.zipIdx_cons, List.foldl_cons, List.setIfInBounds_toArray, Q290 vs off (k + 1) _ (by simp at h ⊢; omega)]
  congr 1
  rw [show off + (k + 1) = off + k + 1 from by omega, List.take_set, List.drop_set_of_lt (by omega)]
  have : (cs.take (off + k + 1)).set (off + k) v = cs.take (off + k) ++ [v] := by
   rw [List.take_succ_eq_append_getElem hk, List.set_append_right _ _ (by rw [List.length_take]; omega), List.length_take, Nat.min_eq_left (by omega), Nat.sub_self]
   rfl
  rw [this]
  simp only [List.length_cons, List.append_assoc, List.singleton_append, List.cons_append, List.nil_append, Nat.add_assoc, Nat.add_comm 1]
theorem Q284 {size : Nat} : ∀ (vs : List Value) (k : Nat) (cells : List Value), (∀ v ∈ vs, v.cells.size = size) → (k + vs.length) * size ≤ cells.length →
 Instr.fill (fun i => some (i * size, size)) cells.toArray ((vs.zipIdx k).map fun p => (p.2, p.1)) = some (cells.take (k * size) ++ vs.flatMap (fun v => v.cells.toList) ++ cells.drop ((k + vs.length) * size)).toArray
 | [], k, cells, _, _ => by simp [Instr.fill]
 | v :: vs, k, cells, h1, h2 => by
  have hv := h1 v (by simp)
  have e1 : (k + 1) * size = k * size + size := by rw [Nat.add_mul, Nat.one_mul]
  have e2 : (k + (v :: vs).length) * size = (k + 1 + vs.length) * size := by rw [List.length_cons]; congr 1; omega
  have e3 : (k + 1 + vs.length) * size = k * size + size + vs.length * size := by rw [Nat.add_mul, e1]
  rw [List.zipIdx_cons, List.map_cons]
  simp only [Instr.fill]
  rw [if_neg (by simp [hv]; rw [e2, e3] at h2; omega)]
  have hf := Q290 v.cells.toList (k * size) 0 cells (by simp [hv]; rw [e2, e3] at h2; omega)
  rw [Nat.add_zero] at hf
  have hz : (v.cells.zipIdx.foldl (fun (cs : Array Value) (x : Value × Nat) => match x with | (c, j) => cs.setIfInBounds (k * size + j) c) cells.toArray) = ((v.cells.toList.zipIdx 0).foldl (fun (cs : Array Value) (p : Value × Nat) => cs.setIfInBounds (k * size + p.2) p.1) cells.toArray) := by
   rw [← Array.foldl_toList]
   congr 1
   simp
  rw [hz, hf, Q284 vs (k + 1) _ (fun u hu => h1 u (by simp [hu])) (by simp [hv]; rw [e2, e3] at h2; omega)]
  have hlv : v.cells.toList.length = size := by simp [hv]
  congr 2
  rw [e2, e3, e1]
  have hle : k * size + size ≤ cells.length := by rw [e2, e3] at h2; omega
  have ht : (cells.take (k * size)).length = k * size := by rw [List.length_take]; omega
  have a1 : (cells.take (k * size) ++ v.cells.toList ++ cells.drop (k * size + v.cells.toList.length)).take (k * size + size) = cells.take (k * size) ++ v.cells.toList := by
   rw [List.take_append_of_le_length (by rw [List.length_append, ht, hlv]; omega), List.take_of_length_le (by rw [List.length_append, ht, hlv]; omega)]
  have a2 : (cells.take (k * size) ++ v.cells.toList ++ cells.drop (k * size + v.cells.toList.length)).drop (k * size + size + vs.length * size) = cells.drop (k * size + size + vs.length * size) := by
   rw [List.drop_append, List.length_append, ht, hlv, List.drop_of_length_le (by rw [List.length_append, ht, hlv]; omega), List.nil_append, List.drop_drop]
   congr 1
   omega
  rw [a1, a2, List.flatMap_cons]
  simp only [List.append_assoc]
theorem At.lit (hg : grd os env g = some true) {len : Nat} {ps : Array (Nat × Operand)} {xo : List Operand} {vs : List Value} {ys : List α} {ii j : TI} (F : Fl α) (hi : ti P t = some ii) (hk : ii.k = .slice e) (hj : ti P e = some j) (hjs : j.size = F.sz)
 (hp : ps.toList = xo.zipIdx.map fun p => (p.2, p.1)) (hv : vals env xo = some vs) (hy : vs.map (fun v => v.cells.toList) = ys.map F.enc) (hl : len = ys.length) (hb : Nat.ble (len * F.sz) 16777216 = true) (hz : j.zero.length = j.size) (hd : Nat.blt d n = true)
 (h : ∀ A c, At n ds R ((d, .slice A ys.length c) :: env) (row F e A ys.length c ys :: l) (wpList P os.toArray Q rest)) :
 At n ds R env l (wpList P os.toArray Q (⟨some d, .buildSlice t len ps, ty, pos, af, g⟩ :: rest)) := Q88 hg rfl hd fun a w e0 hs => by
 obtain ⟨xi, zv, hxi, hsz, hby, hze, hzc⟩ := (Q13 hj).info
 have hvl : vs.length = ys.length := by have := congrArg List.length hy; simpa using this
 have hval := Q143 e0 hv
 have hpv : (ps.map fun (i, x) => (i, a.eval x)).toList = (vs.zipIdx 0).map fun p => (p.2, p.1) := by
  rw [Array.toList_map, hp, List.map_map, ← hval, List.zipIdx_map, List.map_map]
  congr 1
 have hcs : ∀ v ∈ vs, v.cells.size = F.sz := fun v hv => by
  have : v.cells.toList ∈ ys.map F.enc := by rw [← hy]; exact List.mem_map_of_mem hv
  obtain ⟨y, _, hy⟩ := List.mem_map.1 this
  rw [← Array.length_toList, ← hy, F.len]
 have hflat : vs.flatMap (fun v => v.cells.toList) = ys.flatMap F.enc := by rw [List.flatMap_def, List.flatMap_def, hy]
 have hn : ¬ len * xi.size > 2 ^ 24 := by rw [hsz, hjs]; simp only [Nat.ble_eq] at hb; omega
 have hbl : ys.length * F.sz ≤ 16777216 := by rw [← hl]; simpa using hb
 have key : ∀ zs : List Value, zs.length = ys.length * F.sz → Instr.fill (fun i => some (i * F.sz, F.sz)) zs.toArray ((vs.zipIdx 0).map fun p => (p.2, p.1)) = some (ys.flatMap F.enc).toArray := fun zs hzl => by
  rw [Q284 vs 0 zs hcs (by rw [hzl, hvl, Nat.zero_add]; exact Nat.le_refl _), hflat]
  rw [Nat.zero_mul, List.take_zero, List.nil_append, List.drop_of_length_le (by rw [hzl, hvl, Nat.zero_add]; exact Nat.le_refl _), List.append_nil]
 refine ⟨.slice (some ⟨w.heap.size, 0, none⟩) ys.length ys.length, w.alloc (.cells (ys.flatMap F.enc).toArray e), row F e (some ⟨w.heap.size, 0, none⟩) ys.length ys.length ys :: l, ?_, ?_, h _ _⟩
 ·subst hl
  have hfill : ∀ f : Nat → Value, Instr.fill (fun i => some (i * xi.size, xi.size)) ((Array.range (ys.length * xi.size)).map f) ((ps.map fun (i, x) => (i, a.eval x)).toList) = some (ys.flatMap F.enc).toArray := fun f => by
   rw [hpv, hsz, hjs]
   have := key ((Array.range (ys.length * F.sz)).map f).toList (by simp)
   rwa [Array.toArray_toList] at this
  have hsl := (Q13 hi).slice hk
  by_cases h0 : ys.length * xi.size = 0
  ·simp only [execOp, Instr.buildSlice, Sem.run_bind, run_underlying hsl, Result.andThen, sizeOf, typeInfo, hxi, run_program, Sem.run_pure, Sem.run_ite, if_neg hn, if_pos h0, hfill, newRow, run_newObj, World.alloc_eq]
  ·simp only [execOp, Instr.buildSlice, Sem.run_bind, run_underlying hsl, Result.andThen, sizeOf, typeInfo, hxi, run_program, Sem.run_pure, Sem.run_ite, if_neg hn, if_neg h0, zeroValue, hze, hfill, newRow, run_newObj, World.alloc_eq]
 ·refine (hs.alloc _).imp fun h' o => ⟨Q78 F _, .inr ⟨w.heap.size, _, rfl, o, Nat.le_refl _, ?_, ?_, ?_⟩⟩
  ·have : ys.length ≤ ys.length * F.sz := Nat.le_mul_of_pos_right _ F.pos
   simp only [maxLen]; omega
  ·rw [List.size_toArray, Q78]
  ·rw [List.take_of_length_le (by rw [List.toList_toArray, Q78]; exact Nat.le_refl _)]
theorem At.rowLen {m : Nat} (f : Frt l (row F e A m c xs) l') (h : xs.length = m → At n ds R env l K) : At n ds R env l K := fun a w e0 hs =>
 h (let ⟨_, o, _⟩ := (hs.frt f).head; Q97 o) a w e0 hs
theorem Y.rowLen {o : Oper} {v : Value} {m : Nat} (f : Frt l (row F e A m c xs) l') (h : xs.length = m → Y P n ds R env l o v) : Y P n ds R env l o v := fun a w e0 hs =>
 h (let ⟨_, o, _⟩ := (hs.frt f).head; Q97 o) a w e0 hs
section
variable {m : Nat}
theorem Y.ix (f : Frt l (row F e A m c xs) l') {x y : Operand} {i : Int} {k : IntKind} {ii : TI} {dd : Option Nat} (hi : ti P t = some ii) (hk : ii.k = .slice e) (hx : ev env x = some (.slice A m c)) (hy : ev env y = some (.int k i))
 {j : TI} (hj : ti P e = some j) (hjs : j.size = F.sz) (h0 : 0 ≤ i) (h1 : i < (m : Int)) : Y P n ds R env l ⟨dd, .indexAddr t x y, ty, pos, af, g⟩ (elp A (i.toNat * F.sz)) :=
 Y.rowLen f fun hm => by subst hm; exact Y.ixOwn f hi hk hx hy hj hjs h0 h1
theorem Y.ld (f : Frt l (row F e A m c xs) l') {x : Operand} {i : Int} {q : Nat} {v : Value} {ii : TI} {dd : Option Nat} (hi : ti P t = some ii) (hx : ev env x = some (elp A (i.toNat * F.sz + q))) (h0 : 0 ≤ i) (h1 : i < (m : Int))
 (hl : Nat.ble (q + ii.size) F.sz = true) (hz : Nat.blt 0 ii.size = true) (hv : partOf P t q (F.enc (gt xs i)) = some v) : Y P n ds R env l ⟨dd, .load t x, ty, pos, af, g⟩ v :=
 Y.rowLen f fun hm => by subst hm; exact Y.ldOwn f hi hx h0 h1 hl hz hv
theorem At.st (hg : grd os env g = some true) (f : Frt l (row F e A m c xs) l') {x y : Operand} {i : Int} {q : Nat} {v : Value} {vs : List Value} {z : α} {ii : TI} (hi : ti P t = some ii) (hx : ev env x = some (elp A (i.toNat * F.sz + q))) (hy : ev env y = some v)
 (h0 : 0 ≤ i) (h1 : i < (m : Int)) (hv : v.cells.toList = vs) (hs : Nat.beq vs.length ii.size = true) (p : Put (F.enc (gt xs i)) q vs (F.enc z))
 (h : At n ds R env (row F e A m c (st xs i z) :: l') (wpList P os.toArray Q rest)) : At n ds R env l (wpList P os.toArray Q (⟨none, .store t x y, ty, pos, af, g⟩ :: rest)) :=
 At.rowLen f fun hm => by subst hm; exact At.stOwn (hg := hg) f hi hx hy h0 h1 hv hs p h
theorem At.cut (hg : grd os env g = some true) (f : Frt l (row F e A m c xs) l') {x y : Operand} {k : Int} {ki : IntKind} {ii : TI} (hi : ti P t = some ii) (hk : ii.k = .slice e) {j : TI} (hj : ti P e = some j) (hx : ev env x = some (.slice A m c)) (hy : ev env y = some (.int ki k))
 (h0 : 0 ≤ k) (h1 : k ≤ (m : Int)) (hd : Nat.blt d n = true) (h : At n ds R ((d, .slice A (xs.take k.toNat).length c) :: env) (row F e A (xs.take k.toNat).length c (xs.take k.toNat) :: l') (wpList P os.toArray Q rest)) :
 At n ds R env l (wpList P os.toArray Q (⟨some d, .slice t x none (some y) none, ty, pos, af, g⟩ :: rest)) :=
 At.rowLen f fun hm => by subst hm; exact At.slTo (hg := hg) f hi hk hj hx hy h0 h1 hd h
theorem At.append (hg : grd os env g = some true) {x y : Operand} {B : Option Addr} {cb bytes : Nat} {ys : List α} {ii j : TI} (f : Frt l (row F e A m c xs) l') (sr : Src R F l B ys) (hi : ti P t = some ii) (hk : ii.k = .slice e) (hj : ti P e = some j) (hjs : j.size = F.sz) (hjb : j.bytes = bytes)
 (hx : ev env x = some (.slice A m c)) (hy : ev env y = some (.slice B ys.length cb))
 (hz : j.zero.length = j.size) (hb : (m + ys.length) * bytes ≤ 140737488355328) (hb0 : 0 < bytes) (hd : Nat.blt d n = true)
 (h : ∀ A' c', At n ds R ((d, .slice A' (xs ++ ys).length c') :: env) (row F e A' (xs ++ ys).length c' (xs ++ ys) :: l') (wpList P os.toArray Q rest)) :
 At n ds R env l (wpList P os.toArray Q (⟨some d, .call ⟨.builtin .append, #[x, y], #[t, t]⟩, ty, pos, af, g⟩ :: rest)) :=
 At.rowLen f fun hm => by subst hm; exact At.app (hg := hg) f sr hi hk hj hjs hjb hx hy hz hb hb0 hd h
end
end
end Go.Bw
namespace Go.Bw
open Go Go.RowKit

structure Rep (α : Type) where
 sz : Nat
 K : PHeap → α → List Value → Prop
 len : ∀ {H x cs}, K H x cs → cs.length = sz
 mono : ∀ {H H' x cs}, Sub H H' → K H x cs → K H' x cs
 pos : 0 < sz
def Fl.rep {α : Type} (F : Fl α) : Rep α := ⟨F.sz, fun _ x cs => cs = F.enc x, fun h => by rw [h]; exact F.len _, fun _ h => h, F.pos⟩
def RdA (H : PHeap) (a : Addr) (cs : List Value) : Prop := ∀ j u, cs[j]? = some u → ∃ arr e fr, H (a.add j).block = some (.cells arr e fr) ∧ (a.add j).spot = none ∧ arr[(a.add j).off]? = some u
theorem RdA.mono {H H' : PHeap} {a : Addr} {cs : List Value} (s : Sub H H') (h : RdA H a cs) : RdA H' a cs := fun j u hu =>
 let ⟨arr, e, fr, h1, h2, h3⟩ := h j u hu
 ⟨arr, e, fr, s _ _ h1, h2, h3⟩
theorem RdA.cell {H : PHeap} {a : Addr} {cs : List Value} {w : World} (h : RdA H a cs) (s : Sub H (wh w)) {j : Nat} {u : Value} (hu : cs[j]? = some u) : w.cell? (a.add j) = some u := by
 obtain ⟨arr, e, fr, h1, h2, h3⟩ := h j u hu
 have := s _ _ h1
 simp only [wh] at this
 simp [World.cell?, this, h2, h3]
def RdS {α : Type} (T : Rep α) (H : PHeap) (A : Option Addr) (xs : List α) : Prop := ∀ i x, xs[i]? = some x → ∃ ad cs, A = some ad ∧ T.K H x cs ∧ RdA H (ad.add (i * T.sz)) cs
theorem RdS.mono {α : Type} {T : Rep α} {H H' : PHeap} {A : Option Addr} {xs : List α} (s : Sub H H') (h : RdS T H A xs) : RdS T H' A xs := fun i x hx =>
 let ⟨ad, cs, h1, h2, h3⟩ := h i x hx
 ⟨ad, cs, h1, T.mono s h2, h3.mono s⟩
def Rep.slice {α : Type} (T : Rep α) : Rep (List α) := ⟨1, fun H xs cs => ∃ A c, cs = [.slice A xs.length c] ∧ xs.length ≤ c ∧ RdS T H A xs,
 fun ⟨_, _, h, _⟩ => by rw [h]; rfl, fun s ⟨A, c, h1, h2, h3⟩ => ⟨A, c, h1, h2, h3.mono s⟩, by decide⟩
theorem RdS.nil {α : Type} (T : Rep α) (H : PHeap) (A : Option Addr) : RdS T H A [] := fun i x h => by simp at h
theorem RdS.at_ {α : Type} [Inhabited α] {T : Rep α} {H : PHeap} {A : Option Addr} {xs : List α} (h : RdS T H A xs) {i : Int} (h0 : 0 ≤ i) (h1 : i < (xs.length : Int)) :
 ∃ ad cs, A = some ad ∧ T.K H (gt xs i) cs ∧ RdA H (ad.add (i.toNat * T.sz)) cs := h _ _ (Q98 h0 h1)
theorem RdS.take {α : Type} {T : Rep α} {H : PHeap} {A : Option Addr} {xs : List α} (h : RdS T H A xs) (k : Nat) : RdS T H A (xs.take k) := fun i x hx => h i x (by
 rw [List.getElem?_take] at hx
 split at hx
 ·exact hx
 ·cases hx)
theorem RdS.drop {α : Type} {T : Rep α} {H : PHeap} {A : Option Addr} {xs : List α} (h : RdS T H A xs) (k : Nat) : RdS T H (A.map (·.add (k * T.sz))) (xs.drop k) := fun i x hx => by
 rw [List.getElem?_drop] at hx
 obtain ⟨ad, cs, rfl, h2, h3⟩ := h _ _ hx
 refine ⟨_, cs, rfl, h2, ?_⟩
 rw [Q118, ← Nat.add_mul]
 exact h3
theorem Q176 {α : Type} {F : Fl α} {e : Nat} {A : Option Addr} {c : Nat} {xs : List α} {h H : PHeap} (o : row F e A xs.length c xs h) (s : Sub h H) : RdS F.rep H A xs := fun i x hx => by
 have hi : i < xs.length := (List.getElem?_eq_some_iff.1 hx).1
 obtain ⟨g, cur, rfl, hg, h3, h4, h5, h6⟩ := Q172 o (by omega)
 refine ⟨_, _, rfl, rfl, fun j u hu => ?_⟩
 have hj : j < F.sz := by rw [← F.len x]; exact (List.getElem?_eq_some_iff.1 hu).1
 rw [Q118, Q114, Nat.zero_add]
 refine ⟨cur, e, (0, 0), s g _ hg, rfl, ?_⟩
 have hf := Q161 F hx hj
 rw [← h6, List.getElem?_take, hu] at hf
 split at hf
 ·rw [show F.rep.sz = F.sz from rfl]; simpa using hf
 ·cases hf
theorem Q167 {α : Type} {F : Fl α} {e : Nat} {A : Option Addr} {c : Nat} {xs : List α} {h : PHeap} (o : row F e A xs.length c xs h) : xs.length ≤ c := by
 rcases o.2 with ⟨_, h0, h1⟩ | ⟨g, cur, _, _, h3, _⟩
 ·omega
 ·exact h3

section
variable {P : Program} [Tys P] {os : List Oper} {Q : Exit → Act → World → Prop} {rest : List Oper} {n : Nat} {ds : List Deferred} {R : Res} {env : List (Nat × Value)} {l l' : List HProp}
variable {d ty : Nat} {pos : String} {af : Array Edge} {g : Option (Nat × Bool)} {α : Type} [Inhabited α] {F : Fl α} {T : Rep α} {e t : Nat} {A : Option Addr} {c : Nat} {xs : List α} {K : Act → World → Prop}
theorem Q194 {w : World} (h : sat R l w) : Sub R.heap (wh w) := h.1.sub
theorem Y.ixRd {m : Nat} (hr : RdS T R.heap A xs) (hm : xs.length = m) {x y : Operand} {i : Int} {k : IntKind} {ii : TI} {dd : Option Nat} (hi : ti P t = some ii) (hk : ii.k = .slice e) (hx : ev env x = some (.slice A m c)) (hy : ev env y = some (.int k i))
 {j : TI} (hj : ti P e = some j) (hjs : j.size = T.sz) (h0 : 0 ≤ i) (h1 : i < (m : Int)) :
 Y P n ds R env l ⟨dd, .indexAddr t x y, ty, pos, af, g⟩ (elp A (i.toNat * T.sz)) := fun a w e0 hs => by
 subst hm
 obtain ⟨ad, cs, rfl, _⟩ := hr.at_ h0 h1
 simp only [execOp, e0.ev hx, e0.ev hy, Instr.indexAt, asIntOf, Sem.run_bind, Sem.run_pure, Result.andThen, run_underlying ((Q13 hi).slice hk), Sem.run_ite, if_pos (show 0 ≤ i ∧ i < (xs.length : Int) from ⟨h0, h1⟩), (Q13 hj).run_sizeOf, hjs, elp]
theorem Y.ldRd {m : Nat} (hr : RdS T R.heap A xs) (hm : xs.length = m) {x : Operand} {i : Int} {q : Nat} {v : Value} {ii : TI} {dd : Option Nat} (hi : ti P t = some ii) (hx : ev env x = some (elp A (i.toNat * T.sz + q))) (h0 : 0 ≤ i) (h1 : i < (m : Int))
 (hl : Nat.ble (q + ii.size) T.sz = true) (hz : Nat.blt 0 ii.size = true) (hv : ∀ ad cs, A = some ad → T.K R.heap (gt xs i) cs → RdA R.heap (ad.add (i.toNat * T.sz)) cs → partOf P t q cs = some v) :
 Y P n ds R env l ⟨dd, .load t x, ty, pos, af, g⟩ v := fun a w e0 hs => by
 subst hm
 obtain ⟨ad, cs, rfl, hk, hc⟩ := hr.at_ h0 h1
 have hl' : q + ii.size ≤ T.sz := by simpa using hl
 have hlen := T.len hk
 have := Q170 (P := P) (w := w) (a := ad.add (i.toNat * T.sz + q)) (cs := (cs.drop q).take ii.size) (v := v) hi (by simp; omega) (fun j u hu => by
  have := hc.cell (Q194 hs) (Q185 hu)
  rw [Q118] at this ⊢
  rw [Nat.add_assoc]; exact this) (Q190 hi hz (hv _ _ rfl hk hc))
 simp only [execOp, e0.ev hx, elp, Instr.loadAt, Instr.sureAddr, Sem.run_bind, Sem.run_pure, Result.andThen, this]
theorem Y.ldFl {m : Nat} (hr : RdS F.rep R.heap A xs) (hm : xs.length = m) {x : Operand} {i : Int} {q : Nat} {v : Value} {ii : TI} {dd : Option Nat} (hi : ti P t = some ii) (hx : ev env x = some (elp A (i.toNat * F.sz + q))) (h0 : 0 ≤ i) (h1 : i < (m : Int))
 (hl : Nat.ble (q + ii.size) F.sz = true) (hz : Nat.blt 0 ii.size = true) (hv : partOf P t q (F.enc (gt xs i)) = some v) :
 Y P n ds R env l ⟨dd, .load t x, ty, pos, af, g⟩ v := Y.ldRd hr hm hi hx h0 h1 hl hz (fun _ cs _ hk _ => by rw [show cs = F.enc (gt xs i) from hk]; exact hv)
theorem RdS.rowAt {H0 : PHeap} {m : Nat} {xss : List (List α)} (hr : RdS T.slice H0 A xss) (sb : Sub H0 R.heap) (hm : xss.length = m) {i : Int} (h0 : 0 ≤ i) (h1 : i < (m : Int)) : ∃ B cb, (gt xss i).length ≤ cb ∧ RdS T H0 B (gt xss i) ∧
 ∀ {x : Operand} {ii : TI} {dd : Option Nat} {env : List (Nat × Value)} {l : List HProp} (hi : ti P t = some ii) (hx : ev env x = some (elp A (i.toNat * 1))) (hs1 : ii.size = 1) (hag : agg ii.k = false),
  Y P n ds R env l ⟨dd, .load t x, ty, pos, af, g⟩ (.slice B (gt xss i).length cb) := by
 subst hm
 obtain ⟨ad, cs, rfl, ⟨B, cb, h2, h3, h4⟩, h5⟩ := hr.at_ h0 h1
 refine ⟨B, cb, h3, h4, fun {x ii dd env l} hi hx hs1 hag a w e0 hs => ?_⟩
 subst h2
 have := Q170 (P := P) (w := w) (a := ad.add (i.toNat * 1)) (cs := [.slice B (gt xss i).length cb]) (v := .slice B (gt xss i).length cb) hi (by rw [hs1]; rfl) (fun j u hu => by
  exact h5.cell (sb.trans (Q194 hs)) hu) (by unfold partOf; rw [hi]; simp [hag])
 simp only [execOp, e0.ev hx, elp, Instr.loadAt, Instr.sureAddr, Sem.run_bind, Sem.run_pure, Result.andThen, this]
theorem Y.slTo {m : Nat} (hm : xs.length = m) {x y : Operand} {k : Int} {ki : IntKind} {ii : TI} {dd : Option Nat} (hi : ti P t = some ii) (hk : ii.k = .slice e) {j : TI} (hj : ti P e = some j) (hx : ev env x = some (.slice A m c)) (hy : ev env y = some (.int ki k))
 (hc : m ≤ c) (h0 : 0 ≤ k) (h1 : k ≤ (m : Int)) :
 Y P n ds R env l ⟨dd, .slice t x none (some y) none, ty, pos, af, g⟩ (.slice A (xs.take k.toNat).length c) := fun a w e0 hs => by
 subst hm
 have hu := (Q13 hi).slice hk
 have hu' : P.underlying t = some (.slice (P.elem t)) := by rw [hu]; simp [Program.elem, hu]
 have he : P.elem t = e := by rw [hu] at hu'; injection hu' with h; injection h with h; exact h.symm
 have hr := run_slice_h (P := P) (w := w) t A xs.length c hu' ki k h0 (by omega)
 rw [he, (Q13 hj).run_sizeOf] at hr
 have hl : (xs.take k.toNat).length = k.toNat := by simp; omega
 simp only [execOp, e0.ev hx, e0.ev hy, Option.map_none, Option.map_some, Sem.run_bind, run_sliceAt_slice w t _ _ _ _ hu', hr, Result.andThen, Sem.run_pure, sliced, Nat.zero_mul, Nat.sub_zero, hl]
 congr 3
 cases A <;> simp [Addr.add]
theorem Y.slFromAt {H0 : PHeap} {m : Nat} {k : Int} (hm : xs.length = m) (hr : RdS T H0 A xs) (hc : m ≤ c) (h0 : 0 ≤ k) (h1 : k ≤ (m : Int)) :
 ∃ B, RdS T H0 B (xs.drop k.toNat) ∧ (xs.drop k.toNat).length ≤ c - k.toNat ∧ ∀ {x y : Operand} {ki : IntKind} {ii : TI} {dd : Option Nat} {env : List (Nat × Value)} {l : List HProp} (hi : ti P t = some ii) (hk : ii.k = .slice e) {j : TI} (hj : ti P e = some j) (hjs : j.size = T.sz) (hx : ev env x = some (.slice A m c)) (hy : ev env y = some (.int ki k)),
  Y P n ds R env l ⟨dd, .slice t x (some y) none none, ty, pos, af, g⟩ (.slice B (xs.drop k.toNat).length (c - k.toNat)) := by
 subst hm
 have hl : (xs.drop k.toNat).length = xs.length - k.toNat := by simp
 refine ⟨if c = k.toNat then A else A.map (·.add (k.toNat * T.sz)), ?_, by omega, fun {x y ki ii dd env l} hi hk {j} hj hjs hx hy a w e0 hs => ?_⟩
 ·split
  ·rename_i hck
   rw [List.drop_of_length_le (by omega)]
   exact RdS.nil _ _ _
  ·exact hr.drop _
 ·have hu := (Q13 hi).slice hk
  have hu' : P.underlying t = some (.slice (P.elem t)) := by rw [hu]; simp [Program.elem, hu]
  have he : P.elem t = e := by rw [hu] at hu'; injection hu' with h; injection h with h; exact h.symm
  have hr := run_slice_l (P := P) (w := w) t A xs.length c hu' ki k h0 h1
  rw [he, (Q13 hj).run_sizeOf] at hr
  simp only [execOp, e0.ev hx, e0.ev hy, Option.map_none, Option.map_some, Sem.run_bind, run_sliceAt_slice w t _ _ _ _ hu', hr, Result.andThen, Sem.run_pure, sliced, hl, hjs]
theorem Src.rd {B : Option Addr} {ys : List α} (hr : RdS F.rep R.heap B ys) (hn : ys ≠ []) : Src R F l B ys := fun w hs => by
 have hp : 0 < ys.length := List.length_pos_iff.2 hn
 obtain ⟨ad, _, hA, _⟩ := hr 0 ys[0] (by simp)
 refine ⟨ad, hA, fun j u hu => ?_⟩
 have hj : j < ys.length * F.sz := by rw [← Q78 F ys]; exact (List.getElem?_eq_some_iff.1 hu).1
 have hq : j / F.sz < ys.length := Nat.div_lt_of_lt_mul (by rw [Nat.mul_comm]; exact hj)
 have hm : j % F.sz < F.sz := Nat.mod_lt _ F.pos
 obtain ⟨ad', cs, hA', hk, hc⟩ := hr (j / F.sz) ys[j / F.sz] (by simp)
 rw [hA] at hA'
 cases hA'
 have hcs : cs = F.enc ys[j / F.sz] := hk
 have hf := Q161 F (xs := ys) (i := j / F.sz) (x := ys[j / F.sz]) (j := j % F.sz) (by simp) hm
 have hdm : j / F.sz * F.sz + j % F.sz = j := by rw [Nat.mul_comm]; exact Nat.div_add_mod j F.sz
 rw [hdm, hu] at hf
 have := hc.cell (Q194 hs) (j := j % F.sz) (u := u) (by rw [hcs]; exact hf.symm)
 rw [Q118, show F.rep.sz = F.sz from rfl, hdm] at this
 exact this
theorem Y.fa {s : Nat} {fi k off : Nat} {ft : Nat} {fs : List (Nat × Nat)} {x : Operand} {ii j : TI} {dd : Option Nat} (hA : ∃ ad, A = some ad) (hi : ti P s = some ii) (hk : ii.k = .struct fs) (hf : fs[fi]? = some (ft, off)) (hj : ti P ft = some j) (hz : Nat.beq j.size 0 = false)
 (hx : ev env x = some (elp A k)) : Y P n ds R env l ⟨dd, .fieldAddr s x fi, ty, pos, af, g⟩ (elp A (k + off)) := fun a w e0 hs => by
 obtain ⟨ad, rfl⟩ := hA
 obtain ⟨flds, hu, hm⟩ := (Q13 hi).struct hk
 have hfl : ∃ fl : Field, flds[fi]? = some fl ∧ fl.type = ft ∧ fl.offset = off := by
  rw [← hm] at hf
  rw [List.getElem?_map] at hf
  obtain ⟨fl, h1, h2⟩ := Option.map_eq_some_iff.1 hf
  simp only [Prod.mk.injEq] at h2
  exact ⟨fl, by simpa using h1, h2.1, h2.2⟩
 obtain ⟨fl, h1, h2, h3⟩ := hfl
 have hz' : ¬ j.size = 0 := by
  intro e
  rw [e] at hz
  simp at hz
 simp only [execOp, e0.ev hx, elp, Instr.fieldAt, Sem.run_bind, run_underlying hu, Result.andThen, h1, Instr.sureAddr, Sem.run_pure, fieldPlace, h2, (Q13 hj).run_sizeOf, Sem.run_ite, h3, if_neg hz', Q118]
theorem RdS.some_ {m : Nat} (hr : RdS T R.heap A xs) (hm : xs.length = m) {i : Int} (h0 : 0 ≤ i) (h1 : i < (m : Int)) : ∃ ad, A = some ad := by
 subst hm
 obtain ⟨ad, cs, h, _⟩ := hr.at_ h0 h1
 exact ⟨ad, h⟩
theorem At.freeze {m : Nat} (f : Frt l (row F e A m c xs) l')
 (k : ∀ R', RdS F.rep R'.heap A xs → xs.length = m → m ≤ c → Sub R.heap R'.heap → (∀ l w, sat R' l w → sat R (row F e A m c xs :: l) w) → At n ds R' env l' K) : At n ds R env l K := fun a w e0 hs => by
 obtain ⟨h1, o, dj, hs'⟩ := (hs.frt f).freeze
 have hm := Q97 o
 subst hm
 exact k (R.add h1) (Q176 o (Q95 _ _)) rfl (Q167 o) (Q80 dj) (fun l w h => h.thaw o dj) a w e0 hs'
theorem At.thaw {R' : Res} {C : HProp} (th : ∀ l w, sat R' l w → sat R (C :: l) w) (k : At n ds R env (C :: l) K) : At n ds R' env l K := fun a w e0 hs => k a w e0 (th _ _ hs)
end
end Go.Bw
namespace Go.Bw
open Go Go.RowKit

theorem bind_some' {α β : Type} {x : Option α} {f : α → Option β} {r : β} (h : x.bind f = some r) : ∃ t, x = some t ∧ f t = some r := by
 cases x with
 | none => cases h
 | some t => exact ⟨t, rfl, h⟩
def iterN {σ ρ : Type} (body : σ → Option (σ ⊕ ρ)) : Nat → σ → Option ρ
 | 0, _ => none
 | n + 1, s => match body s with
  | none => none
  | some (.inl s') => iterN body n s'
  | some (.inr r) => some r
theorem Q235 {σ ρ : Type} {body : σ → Option (σ ⊕ ρ)} : ∀ {n : Nat} {s : σ} {r : ρ}, iterN body n s = some r → iterN body (n + 1) s = some r
 | 0, _, _, h => by cases h
 | n + 1, s, r, h => by
  unfold iterN at h ⊢
  split at h
  ·cases h
  ·exact Q235 h
  ·exact h
theorem Q187 {σ ρ : Type} {body : σ → Option (σ ⊕ ρ)} {n m : Nat} (hnm : n ≤ m) {s : σ} {r : ρ} (h : iterN body n s = some r) : iterN body m s = some r := by
 induction hnm with
 | refl => exact h
 | step _ ih => exact Q235 ih
open Classical in
noncomputable def iterE {σ ρ : Type} (body : σ → Option (σ ⊕ ρ)) (s : σ) : Option ρ := if h : ∃ n r, iterN body n s = some r then some h.choose_spec.choose else none
noncomputable def iter {σ ρ : Type} (body : σ → Option (σ ⊕ ρ)) (s : σ) : Option ρ := match iterN body 4000 s with | some r => some r | none => iterE body s
theorem Q307 {σ ρ : Type} {body : σ → Option (σ ⊕ ρ)} {s : σ} {r : ρ} : iterE body s = some r ↔ ∃ n, iterN body n s = some r := by
 unfold iterE
 constructor
 ·intro h
  split at h
  ·rename_i hx
   refine ⟨hx.choose, ?_⟩
   rw [← h]
   exact hx.choose_spec.choose_spec
  ·cases h
 ·rintro ⟨n, h⟩
  have hx : ∃ n r, iterN body n s = some r := ⟨n, r, h⟩
  rw [dif_pos hx]
  have h2 := hx.choose_spec.choose_spec
  have h3 := Q187 (Nat.le_max_left hx.choose n) h2
  have h4 := Q187 (Nat.le_max_right hx.choose n) h
  rw [h3] at h4
  exact h4
theorem Q15 {σ ρ : Type} {body : σ → Option (σ ⊕ ρ)} {s : σ} {r : ρ} : iter body s = some r ↔ ∃ n, iterN body n s = some r := by
 unfold iter
 split
 ·rename_i r' h
  constructor
  ·rintro ⟨⟩; exact ⟨_, h⟩
  ·rintro ⟨n, h'⟩
   have h3 := Q187 (Nat.le_max_left 4000 n) h
   have h4 := Q187 (Nat.le_max_right 4000 n) h'
   rw [h3] at h4
   exact h4
 ·exact Q307
theorem Q81 {σ ρ : Type} (body : σ → Option (σ ⊕ ρ)) (s : σ) : iter body s = (body s).bind fun | .inl s' => iter body s' | .inr r => some r := by
 apply Option.ext
 intro r
 rw [Q15]
 constructor
 ·rintro ⟨n, h⟩
  cases n with
  | zero => cases h
  | succ n =>
   unfold iterN at h
   split at h
   ·cases h
   ·rename_i s' hb; rw [hb]; exact Q15.2 ⟨n, h⟩
   ·rename_i r' hb; rw [hb]; exact h
 ·intro h
  obtain ⟨t, ht, h⟩ := bind_some' h
  cases t with
  | inl s' =>
   obtain ⟨n, hn⟩ := Q15.1 h
   exact ⟨n + 1, by unfold iterN; rw [ht]; exact hn⟩
  | inr r' => exact ⟨1, by unfold iterN; rw [ht]; exact h⟩

theorem nt {b : Bool} (h : b = false) : (!b) = true := by rw [h]; rfl
theorem nf {b : Bool} (h : b = true) : (!b) = false := by rw [h]; rfl
theorem bn {b : Bool} (h : ¬ b = true) : b = false := by cases b <;> simp_all

structure Callee (P : Program) (f : Nat) : Prop where
 ok : ∃ fn, P.funcs[f]? = some fn ∧ (fn.name == "runtime.NumGoroutine") = false ∧ fn.body.isNone = false
abbrev Post := Value → List HProp → Prop
def Spec (P : Program) (f : Nat) (args : List Value) (R : Res) (l : List HProp) (post : Post) : Prop :=
 ∀ w, sat R l w → Calls P f args.toArray w fun e w' => ∃ v l', e = .returned v ∧ post v l' ∧ sat R l' w'
def envA : Nat → List Value → List (Nat × Value)
 | _, [] => []
 | k, v :: r => (k, v) :: envA (k + 1) r
theorem Q218 : ∀ {l : List Value} {k t : Nat} {v : Value}, look (envA k l) t = some v → ∃ j, t = k + j ∧ l[j]? = some v
 | [], _, _, _, h => by cases h
 | u :: r, k, t, v, h => by
  unfold envA look at h
  split at h
  ·rename_i hb
   have : k = t := Nat.eq_of_beq_eq_true hb
   cases h
   exact ⟨0, by omega, rfl⟩
  ·obtain ⟨j, hj, hv⟩ := Q218 h
   exact ⟨j + 1, by omega, by simpa using hv⟩
def PostB (P : Program) (fn : Func) (R : Res) (post : Post) : Exit → Act → World → Prop := bodyPost P fn fun e w' => ∃ v l', e = .returned v ∧ post v l' ∧ sat R l' w'
theorem Spec.of {P : Program} {f : Nat} {fn : Func} {c : Code} {args : List Value} {R : Res} {l : List HProp} {post : Post} (hf : P.funcs[f]? = some fn) (hb : fn.body = some c) (hn : Nat.ble args.length fn.ntmps = true)
 (h : At fn.ntmps [] R (envA 0 args) l (c.wp P (PostB P fn R post))) : Spec P f args R l post := fun w hs => by
 refine calls_of_wp hf hb (h _ w ⟨?_, rfl, fun t v hv => ?_⟩ hs)
 ·have : args.length ≤ fn.ntmps := by simpa using hn
  simp; omega
 ·obtain ⟨j, rfl, hj⟩ := Q218 hv
  show (args.toArray ++ Array.replicate _ undef).getD (0 + j) undef = v
  have hlt := (List.getElem?_eq_some_iff.1 hj).1
  rw [Nat.zero_add, Array.getD_eq_getD_getElem?, Array.getElem?_append_left (by simpa using hlt), List.getElem?_toArray, hj]
  rfl
section
variable {P : Program} [Tys P] {os : List Oper} {Q : Exit → Act → World → Prop} {rest : List Oper} {n : Nat} {ds : List Deferred} {R : Res} {env : List (Nat × Value)} {l l' : List HProp} {K : Act → World → Prop}
variable {d ty : Nat} {pos : String} {af : Array Edge} {g : Option (Nat × Bool)}
theorem Q226 {f : Nat} (c : Callee P f) (args : Array Value) (w : World) : (callFunc f args).run P w = .ok (.enter f args) w := by
 obtain ⟨fn, h1, h2, h3⟩ := c.ok
 simp only [callFunc, Sem.run_bind, run_program, Result.andThen, h1, h2, Bool.false_eq_true, if_false, h3, Sem.run_pure]
theorem Q270 {a : Act} {w : World} {x : Operand} {xs : List Operand} {ts : Array Nat} {f : Nat} {cap : List Value} {vs : List Value} {dd : Option Nat} (e : Env n ds env a)
 (hx : ev env x = some (.func (.func f) #[] cap.toArray)) (hv : vals env xs = some vs) (c : Callee P f) :
 (execOp a.eval ⟨dd, .call ⟨.value x, xs.toArray, ts⟩, ty, pos, af, g⟩).run P w = .ok (.enter f (vs ++ cap).toArray) w := by
 have := Q143 e hv
 simp [execOp, resolve, Deferred.ofValue, invoke, e.ev hx, Q226 c, this]
theorem At.call (hg : grd os env g = some true) {x : Operand} {xs : List Operand} {ts : Array Nat} {f : Nat} {cap : List Value} {vs : List Value} {post : Post} (c : Callee P f)
 (hx : ev env x = some (.func (.func f) #[] cap.toArray)) (hv : vals env xs = some vs) (hd : Nat.blt d n = true)
 (s : Spec P f (vs ++ cap) R l post) (h : ∀ v l', post v l' → At n ds R ((d, v) :: env) l' (wpList P os.toArray Q rest)) :
 At n ds R env l (wpList P os.toArray Q (⟨some d, .call ⟨.value x, xs.toArray, ts⟩, ty, pos, af, g⟩ :: rest)) := fun a w e hs => by
 refine wpList_step fun K hK => ?_
 rw [if_pos (Q76 e hg)]
 unfold Oper.wp
 rw [Q270 e hx hv c, Oper.upon_enter]
 refine (s w hs).mono fun e' w' ⟨v, l', he, hp, hs'⟩ => ?_
 subst he
 exact hK _ _ (h v l' hp _ _ (e.put hd v) hs')
theorem At.Quiet.call (hg : grd os env g = some true) {x : Operand} {xs : List Operand} {ts : Array Nat} {f : Nat} {cap : List Value} {vs : List Value} {v : Value} {post : Post} (c : Callee P f)
 (hx : ev env x = some (.func (.func f) #[] cap.toArray)) (hv : vals env xs = some vs) (hd : Nat.blt d n = true)
 (s : Spec P f (vs ++ cap) R l post) (hp : ∀ v' l', post v' l' → v' = v ∧ ∀ w, sat R l' w → sat R l w) (k : At.Quiet P n ds R ((d, v) :: env) l os rest K) :
 At.Quiet P n ds R env l os (⟨some d, .call ⟨.value x, xs.toArray, ts⟩, ty, pos, af, g⟩ :: rest) K := fun a e => by
 refine wpQuiet_step fun K' hK => ?_
 rw [if_pos (Q76 e hg)]
 refine ⟨v, fun w hs => ?_, hK _ (k _ (e.put hd v))⟩
 unfold Oper.quietAt
 rw [Q270 e hx hv c]
 refine ⟨rfl, (s w hs).mono fun e' w' ⟨v', l', he, hq, hs'⟩ => ?_⟩
 obtain ⟨rfl, h2⟩ := hp v' l' hq
 exact ⟨he, h2 w' hs'⟩

theorem At.fin {fn : Func} {post : Post} {x : Exit} (hx : x = .ret ∨ x = .normal) (h : At n [] R env l (fun a w => ∃ v l', (results fn a.tmps).run P w = .ok v w ∧ post v l' ∧ sat R l' w)) : At n [] R env l (PostB P fn R post x) := fun a w e hs => by
 obtain ⟨v, l', hr, hp, hs'⟩ := h a w e hs
 rcases hx with rfl | rfl <;> exact ⟨e.defs, v, hr, v, l', rfl, hp, hs'⟩
def resV (env : List (Nat × Value)) : List ResultVar → Option (List Value)
 | [] => some []
 | .tmp t :: r => match look env t, resV env r with
  | some v, some vs => some (v :: vs)
  | _, _ => none
 | .cell _ _ :: _ => none
def resT : List Value → Value
 | [v] => v
 | vs => .tuple vs.toArray
def resF (tmps : Array Value) : ResultVar → Sem Value
 | .tmp t => pure (tmps.getD t undef)
 | .cell b t => do loadVar t (← asAddr (tmps.getD b undef))
theorem Q230 (fn : Func) (tmps : Array Value) : results fn tmps = (do let vs ← fn.results.mapM (resF tmps); pure (if h : vs.size = 1 then vs[0] else .tuple vs)) := by
 unfold results
 congr 1
theorem Q237 {a : Act} {w : World} (e : Env n ds env a) : ∀ {r : List ResultVar} {vs : List Value}, resV env r = some vs → (r.mapM (resF a.tmps)).run P w = .ok vs w
 | [], vs, h => by cases h; rfl
 | .tmp t :: r, vs, h => by
  unfold resV at h
  split at h
  ·rename_i v vs' hv hvs
   cases h
   have h1 : a.tmps.getD t undef = v := e.get _ _ hv
   simp only [List.mapM_cons, resF, h1, Sem.run_bind, Sem.run_pure, Result.andThen, Q237 e hvs]
  ·cases h
 | .cell b t :: r, vs, h => by cases h
theorem At.res {fn : Func} {post : Post} {x : Exit} {r : List ResultVar} {vs : List Value} (hx : x = .ret ∨ x = .normal) (hr : fn.results = r.toArray) (hv : resV env r = some vs) (hp : post (resT vs) l) : At n [] R env l (PostB P fn R post x) :=
 At.fin hx fun a w e hs => by
  refine ⟨_, l, ?_, hp, hs⟩
  have := Q237 (P := P) (w := w) e hv
  rw [Q230, hr, List.mapM_toArray]
  simp only [Sem.run_bind, Sem.run_map, this, Result.andThen, Sem.run_pure]
  cases vs with
  | nil => rfl
  | cons v vs =>
   cases vs with
   | nil => rfl
   | cons u vs => simp [resT]
end

def unr {σ ρ : Type} (f : σ → Option ρ) (x : Option (σ ⊕ ρ)) : Option ρ := x.bind fun | .inl s => f s | .inr r => some r
def nx {σ ρ : Type} (s : σ) : Option (σ ⊕ ρ) := some (.inl s)
def dn {σ ρ : Type} (o : ρ) : Option (σ ⊕ ρ) := some (.inr o)
section
variable {σ ρ α : Type} {f : σ → Option ρ} {r : ρ}
theorem Q330 {body : σ → Option (σ ⊕ ρ)} {m : Nat} {s : σ} (h : iterN body m s = some r) : ∃ m', m' < m ∧ unr (iterN body m') (body s) = some r := by
 cases m with
 | zero => cases h
 | succ m => exact ⟨m, Nat.lt_succ_self m, by unfold iterN at h; unfold unr; cases hb : body s with
  | none => rw [hb] at h; cases h
  | some x => rw [hb] at h; cases x <;> exact h⟩
end
section
variable {n : Nat} {ds : List Deferred} {R : Res} {env : List (Nat × Value)} {l : List HProp} {next : Act → World → Prop} {Q : Exit → Act → World → Prop} {id id' : Nat}
theorem At.thn (h : At n ds R env l next) : At n ds R env l (Exit.then next Q .normal) := h
theorem At.the (h : At n ds R env l (Q (.exit id))) : At n ds R env l (Exit.then next Q (.exit id)) := h
theorem At.thr (h : At n ds R env l (Q .ret)) : At n ds R env l (Exit.then next Q .ret) := h
theorem At.ibn (h : At n ds R env l (Q .normal)) : At n ds R env l (Exit.inBlock id Q .normal) := h
theorem At.ibr (h : At n ds R env l (Q .ret)) : At n ds R env l (Exit.inBlock id Q .ret) := h
theorem At.ibx (h : At n ds R env l (Q .normal)) : At n ds R env l (Exit.inBlock id Q (.exit id)) := fun a w e hs => by simpa [Exit.inBlock] using h a w e hs
theorem At.ibo (hn : Nat.beq id' id = false) (h : At n ds R env l (Q (.exit id'))) : At n ds R env l (Exit.inBlock id Q (.exit id')) := fun a w e hs => by
 have : id' ≠ id := by intro e; subst e; simp at hn
 simpa [Exit.inBlock, this] using h a w e hs
end


def jn {σ ρ : Type} (x : Option (σ ⊕ ρ)) (f : σ → Option ρ) : Option ρ := x.bind fun | .inl s => f s | .inr o => some o
def up {σ ρ : Type} (x : Option ρ) : Option (σ ⊕ ρ) := x.bind fun o => some (.inr o)
def upL {σ τ ρ : Type} (x : Option ρ) : Option (σ ⊕ (τ ⊕ ρ)) := x.bind fun o => some (.inr (.inr o))
section
variable {σ τ ρ ω α : Type} {r : ω}
theorem Q12 {s : σ} {f : σ → Option ρ} : jn (some (.inl s)) f = f s := rfl
theorem jn_inr {o : ρ} {f : σ → Option ρ} : jn (some (.inr o)) f = some o := rfl
theorem jn_up {x : Option ρ} {f : σ → Option ρ} : jn (up x) f = x := by cases x <;> rfl
theorem jn_ite {c : Prop} [Decidable c] {x y : Option (σ ⊕ ρ)} {f : σ → Option ρ} : jn (if c then x else y) f = if c then jn x f else jn y f := by split <;> rfl
theorem bite {c : Prop} [Decidable c] {x y : Option α} {G : α → Option ω} (h : (if c then x else y).bind G = some r) : (c ∧ x.bind G = some r) ∨ (¬ c ∧ y.bind G = some r) := by
 split at h
 ·rename_i hc; exact .inl ⟨hc, h⟩
 ·rename_i hc; exact .inr ⟨hc, h⟩
theorem bnone {c : Prop} [Decidable c] {x : Option α} {G : α → Option ω} (h : (if c then x else none).bind G = some r) : c ∧ x.bind G = some r := by
 rcases bite h with h | ⟨_, h⟩
 ·exact h
 ·cases h
theorem bbind {x : Option τ} {g : τ → Option α} {G : α → Option ω} (h : (x.bind g).bind G = some r) : ∃ t, x = some t ∧ (g t).bind G = some r := by
 cases x with
 | none => cases h
 | some t => exact ⟨t, rfl, h⟩
theorem bjoin {x : Option (σ ⊕ ρ)} {f : σ → Option ρ} {G : ρ → Option ω} (h : (jn x f).bind G = some r) :
 ∃ G1 : σ ⊕ ρ → Option ω, (∀ s, G1 (.inl s) = (f s).bind G) ∧ (∀ o, G1 (.inr o) = G o) ∧ x.bind G1 = some r := by
 refine ⟨fun | .inl s => (f s).bind G | .inr o => G o, fun _ => rfl, fun _ => rfl, ?_⟩
 unfold jn at h
 cases x with
 | none => cases h
 | some v => cases v <;> exact h
theorem bsome {x : Option α} {G : α → Option ω} (h : x.bind G = some r) : ∃ t, x = some t ∧ G t = some r := bind_some' h
theorem bup {M : Option ρ} {G1 : σ ⊕ ρ → Option ω} {G : ρ → Option ω} (hr : ∀ o, G1 (.inr o) = G o) (h : (up M : Option (σ ⊕ ρ)).bind G1 = some r) : M.bind G = some r := by
 cases M with
 | none => cases h
 | some v => exact (hr v).symm.trans h
theorem bret {v : ω} (h : (some v).bind some = some r) : r = v := (Option.some.inj h).symm
theorem brun {x : Option ω} (h : x = some r) : x.bind some = some r := by rw [h]; rfl
def stp {σ ρ : Type} (f : σ → Option ρ) : σ ⊕ ρ → Option ρ
 | .inl s => f s
 | .inr v => some v
theorem bit {body : σ → Option (σ ⊕ ρ)} {m : Nat} {s : σ} {o : ρ} (h : iterN body m s = some o) : ∃ m' f, m' < m ∧ (∀ s, f s = iterN body m' s) ∧ (body s).bind (stp f) = some o := by
 obtain ⟨m', h1, h2⟩ := Q330 h
 refine ⟨m', iterN body m', h1, fun _ => rfl, ?_⟩
 unfold unr at h2
 cases hb : body s with
 | none => rw [hb] at h2; cases h2
 | some v => rw [hb] at h2; cases v <;> exact h2
theorem bnx {f g : σ → Option ρ} {s : σ} {o : ρ} (hf : ∀ s, f s = g s) (h : (nx s : Option (σ ⊕ ρ)).bind (stp f) = some o) : g s = some o := (hf s).symm.trans h
theorem bdn {f : σ → Option (τ ⊕ ρ)} {p o : τ ⊕ ρ} {G1 : τ ⊕ ρ → Option ω} (h : (dn p : Option (σ ⊕ (τ ⊕ ρ))).bind (stp f) = some o) (ho : G1 o = some r) : G1 p = some r := by
 have : p = o := Option.some.inj h
 rw [this]; exact ho
theorem bupL {f : σ → Option (τ ⊕ ρ)} {M : Option ρ} {o : τ ⊕ ρ} {G1 : τ ⊕ ρ → Option ω} {G : ρ → Option ω} (hr : ∀ o, G1 (.inr o) = G o) (ho : G1 o = some r)
 (h : (upL M : Option (σ ⊕ (τ ⊕ ρ))).bind (stp f) = some o) : M.bind G = some r := by
 cases M with
 | none => cases h
 | some v =>
  have : (.inr v : τ ⊕ ρ) = o := Option.some.inj h
  rw [← this] at ho
  exact (hr v).symm.trans ho
end
section
variable {P : Program} {n : Nat} {ds : List Deferred} {R : Res} {env : List (Nat × Value)} {l : List HProp} {K K1 next : Act → World → Prop} {Q : Exit → Act → World → Prop} {os rest : List Oper}
theorem At.join {X : Type} (E : X → List (Nat × Value)) (L : X → List HProp) (I : X → Prop) {c : Code} (J : ∀ x, I x → At n ds R (E x) (L x) next) (h : (∀ x, I x → At n ds R (E x) (L x) next) → At n ds R env l (c.wp P (Exit.then next Q))) :
 At n ds R env l (c.wp P (Exit.then next Q)) := h J
theorem At.joinO (k : Nat) {X : Type} (E : X → List (Nat × Value)) (L : X → List HProp) (I : X → Prop) (J : ∀ x, I x → At n ds R (E x) (L x) (wpList P os.toArray Q (rest.drop k)))
 (h : (∀ x, I x → At n ds R (E x) (L x) (wpList P os.toArray Q (rest.drop k))) → At n ds R env l (wpList P os.toArray Q rest)) : At n ds R env l (wpList P os.toArray Q rest) := h J
theorem At.Quiet.joinO (k : Nat) {X : Type} (E : X → List (Nat × Value)) (L : X → List HProp) (I : X → Prop) (J : ∀ x, I x → At.Quiet P n ds R (E x) (L x) os (rest.drop k) K)
 (h : (∀ x, I x → At.Quiet P n ds R (E x) (L x) os (rest.drop k) K) → At.Quiet P n ds R env l os rest K) : At.Quiet P n ds R env l os rest K := h J
theorem At.Quiet.sub {env' : List (Nat × Value)} (s : SubEnv env env') (h : At.Quiet P n ds R env' l os rest K) : At.Quiet P n ds R env l os rest K := fun a e => h a (e.sub s)
theorem At.loopJ {X Y : Type} {c : Code} {e0 : Nat} (E : X → List (Nat × Value)) (L : X → List HProp) (I : Nat → X → Prop) (m : Nat) (x : X) (hx : I m x) (EY : Y → List (Nat × Value)) (LY : Y → List HProp) (IY : Y → Prop)
 (h0 : At n ds R env l (fun a w => Env n ds (E x) a ∧ sat R (L x) w)) (J : ∀ y, IY y → At n ds R (EY y) (LY y) (Q (.exit e0)))
 (round : (∀ y, IY y → At n ds R (EY y) (LY y) (Q (.exit e0))) → ∀ m x, I m x → At n ds R (E x) (L x) (c.wp P (Exit.then (fun a w => ∃ m' x', m' < m ∧ I m' x' ∧ Env n ds (E x') a ∧ sat R (L x') w) Q))) :
 At n ds R env l ((Code.loop c).wp P Q) := At.loop E L I m x hx h0 (round J)
end
end Go.Bw
namespace Go.Bw
open Go Go.RowKit
section
variable {P : Program} [Tys P] {n : Nat} {ds : List Deferred} {R : Res} {env env' : List (Nat × Value)} {l : List HProp} {Q : Exit → Act → World → Prop}
theorem sR {id : Nat} {os rest : List Oper} {y : Code} (k : Nat) (h : runP P n os k os env = some (rest, env')) (g : At n ds R env' l (wpList P os.toArray (Exit.then (y.wp P Q) Q) rest)) : At n ds R env l ((Code.seq (Code.region id os.toArray false) y).wp P Q) := At.seq (At.region (At.run k h g))
theorem nT {ops : Array Oper} {next : Act → World → Prop} (h : At n ds R env l next) : At n ds R env l (wpList P ops (Exit.then next Q) []) := At.nil (At.thn h)
end
end Go.Bw
namespace Go.Bw
open Go Go.RowKit

section
variable {P : Program} [Tys P] {os : List Oper} {Q : Exit → Act → World → Prop} {rest : List Oper} {n : Nat} {ds : List Deferred} {R : Res} {env : List (Nat × Value)} {l l' : List HProp}
variable {d ty : Nat} {pos : String} {af : Array Edge} {g : Option (Nat × Bool)} {α : Type} [Inhabited α] {F : Fl α} {e t : Nat} {A : Option Addr} {c m : Nat} {xs ys : List α} {K : Act → World → Prop} {dd : Option Nat}
theorem Y.rem {x y : Operand} {k : IntKind} {a b : Int} {yt : Nat} (hx : ev env x = some (.int k a)) (hy : ev env y = some (.int k b)) (hb : ¬ b = 0) : Y P n ds R env l ⟨dd, .binOp .rem t x y yt, ty, pos, af, g⟩ (.int k (a.tmod b)) := fun a' w e hs => by
 simp [execOp, e.ev hx, e.ev hy, eqGuard, binOp, Op.intDiv, hb]
def shl (k : IntKind) (a b : Int) : Int := k.wrap (a * 2 ^ (min b.toNat k.bits))
def shr (k : IntKind) (a b : Int) : Int := a.fdiv (2 ^ (min b.toNat k.bits))
theorem Y.shl {x y : Operand} {k k' : IntKind} {a b : Int} {yt : Nat} (hx : ev env x = some (.int k a)) (hy : ev env y = some (.int k' b)) (hb : 0 ≤ b) : Y P n ds R env l ⟨dd, .binOp .shl t x y yt, ty, pos, af, g⟩ (.int k (Bw.shl k a b)) := fun a' w e hs => by
 simp [execOp, e.ev hx, e.ev hy, eqGuard, binOp, Op.shift, Int.not_lt.2 hb, Bw.shl]
theorem Y.shr {x y : Operand} {k k' : IntKind} {a b : Int} {yt : Nat} (hx : ev env x = some (.int k a)) (hy : ev env y = some (.int k' b)) (hb : 0 ≤ b) : Y P n ds R env l ⟨dd, .binOp .shr t x y yt, ty, pos, af, g⟩ (.int k (Bw.shr k a b)) := fun a' w e hs => by
 simp [execOp, e.ev hx, e.ev hy, eqGuard, binOp, Op.shift, Int.not_lt.2 hb, Bw.shr]
theorem Q336 (d : Nat) {t e : Nat} (h : P.underlying t = some (.slice e)) (A : Option Addr) (m c : Nat) (w : World) : (Op.equalIn (d + 1) t (.slice A m c) (.slice none 0 0)).run P w = .ok A.isNone w := by
 cases A <;> simp [Op.equalIn, run_underlying h]
theorem Q331 {t e : Nat} (h : P.underlying t = some (.slice e)) (A : Option Addr) (m c : Nat) (w : World) : (Op.equal t (.slice A m c) (.slice none 0 0)).run P w = .ok A.isNone w := Q336 9999 h A m c w
theorem Y.eqNil {x y : Operand} {yt : Nat} {ii : TI} (hi : ti P t = some ii) (hk : ii.k = .slice e) (hx : ev env x = some (.slice A m c)) (hy : ev env y = some (.slice none 0 0)) : Y P n ds R env l ⟨dd, .binOp .eql t x y yt, ty, pos, af, g⟩ (.bool A.isNone) := fun a' w e0 hs => by
 simp [execOp, e0.ev hx, e0.ev hy, eqGuard, binOp, Q331 ((Q13 hi).slice hk)]

def SrcE {α : Type} (R : Res) (F : Fl α) (l : List HProp) (A : Option Addr) (ys : List α) : Prop :=
 ∀ w, sat R l w → (A = none ∧ ys = []) ∨ ∃ ad, A = some ad ∧ ∀ j u, (ys.flatMap F.enc)[j]? = some u → w.cell? (ad.add j) = some u
theorem SrcE.rd {B : Option Addr} (hr : RdS F.rep R.heap B ys) : SrcE R F l B ys := fun w hs => by
 by_cases hn : ys = []
 ·cases B with
  | none => exact .inl ⟨rfl, hn⟩
  | some ad => exact .inr ⟨ad, rfl, fun j u hu => by rw [hn] at hu; simp at hu⟩
 ·exact .inr (Src.rd hr hn w hs)
theorem Q339 (t ty e : TypeId) (j : TI) (ht : P.underlying t = some (.slice e)) (hj : ti P e = some j) (A : Option Addr) (a c cb : Nat) (h : a ≤ c) (w : World) :
 (Builtin.append_ #[t, t] ty #[.slice A a c, .slice none 0 cb]).run P w = .ok (.slice A a c) w := by
 have hs := (Q13 hj).run_sizeOf w
 cases A <;> simp [Builtin.append_, run_underlying ht, hs, Builtin.lenOf, Builtin.firstCells, h, storeCells]
theorem At.appendAll (hg : grd os env g = some true) {x y : Operand} {B : Option Addr} {k cb bytes : Nat} {ii j : TI} (f : Frt l (row F e A m c xs) l') (sr : SrcE R F l B ys) (hk2 : ys.length = k) (hi : ti P t = some ii) (hk : ii.k = .slice e) (hj : ti P e = some j) (hjs : j.size = F.sz) (hjb : j.bytes = bytes)
 (hx : ev env x = some (.slice A m c)) (hy : ev env y = some (.slice B k cb))
 (hz : j.zero.length = j.size) (hb : (m + k) * bytes ≤ 140737488355328) (hb0 : 0 < bytes) (hd : Nat.blt d n = true)
 (h : ∀ A' c', At n ds R ((d, .slice A' (xs ++ ys).length c') :: env) (row F e A' (xs ++ ys).length c' (xs ++ ys) :: l') (wpList P os.toArray Q rest)) :
 At n ds R env l (wpList P os.toArray Q (⟨some d, .call ⟨.builtin .append, #[x, y], #[t, t]⟩, ty, pos, af, g⟩ :: rest)) := by
 subst hk2
 by_cases hB : B = none ∧ ys = []
 ·obtain ⟨rfl, rfl⟩ := hB
  refine At.rowLen f fun hm => ?_
  subst hm
  refine Q88 hg rfl hd fun a w e0 hs => ?_
  have hs1 := hs.frt f
  have hle : xs.length ≤ c := let ⟨_, o, _⟩ := hs1.head; Q167 o
  refine ⟨.slice A xs.length c, w, row F e A xs.length c xs :: l', ?_, hs1, by have := h A c; simpa using this⟩
  have hr := Q339 t ty e j ((Q13 hi).slice hk) hj A xs.length c cb hle w
  have hy' := e0.ev hy
  simp only [List.length_nil] at hy'
  simp only [execOp, resolve, invoke, builtin, Sem.run_bind, Sem.run_pure, Result.andThen_ok, List.map_toArray, List.map_cons, List.map_nil, e0.ev hx, hy', hr]
 ·refine At.append hg f (fun w hs => ?_) hi hk hj hjs hjb hx hy hz hb hb0 hd h
  rcases sr w hs with ⟨h1, h2⟩ | h1
  ·exact (hB ⟨h1, h2⟩).elim
  ·exact h1
end
end Go.Bw
namespace Go.Bw
open Go Go.RowKit

theorem Q104 : ∀ {L l : List HProp} {h : PHeap}, stars (L ++ l) h ↔ ∃ h1 h2, stars L h1 ∧ stars l h2 ∧ Disj h1 h2 ∧ Sub h1 h ∧ Sub h2 h
 | [], l, h => ⟨fun s => ⟨fun _ => none, h, trivial, s, (fun _ _ _ e => by cases e), (fun _ _ e => by cases e), Sub.refl _⟩, fun ⟨_, h2, _, s, _, _, s2⟩ => Q200 s s2⟩
 | c :: L, l, h => by
  constructor
  ·rintro ⟨k1, k2, a, b, d, s1, s2⟩
   obtain ⟨m1, m2, x, y, d2, t1, t2⟩ := Q104.1 b
   exact ⟨uni k1 m1, m2, ⟨k1, m1, a, x, d.sub (Sub.refl _) t1, Q95 _ _, Q80 (d.sub (Sub.refl _) t1)⟩, y, Disj.uni_l (d.sub (Sub.refl _) t2) d2, Q117 s1 (t1.trans s2), t2.trans s2⟩
  ·rintro ⟨h1, h2, ⟨k1, k2, a, b, d, s1, s2⟩, y, d2, t1, t2⟩
   have dk : Disj k1 h2 := d2.sub s1 (Sub.refl _)
   have dk2 : Disj k2 h2 := d2.sub s2 (Sub.refl _)
   exact ⟨k1, uni k2 h2, a, Q104.2 ⟨k2, h2, b, y, dk2, Q95 _ _, Q80 dk2⟩, Disj.uni_r d dk, s1.trans t1, Q117 (s2.trans t1) t2⟩
theorem sat.flat {R : Res} {L l : List HProp} {w : World} : sat R (stars L :: l) w ↔ sat R (L ++ l) w := by
 constructor
 ·rintro ⟨ok, h, ⟨h1, h2, a, b, d, s1, s2⟩, dR, s⟩
  exact ⟨ok, h, Q104.2 ⟨h1, h2, a, b, d, s1, s2⟩, dR, s⟩
 ·rintro ⟨ok, h, a, dR, s⟩
  obtain ⟨h1, h2, a, b, d, s1, s2⟩ := Q104.1 a
  exact ⟨ok, h, ⟨h1, h2, a, b, d, s1, s2⟩, dR, s⟩
theorem sat.ex {R : Res} {β : Type} {P : β → HProp} {l : List HProp} {w : World} : sat R ((fun h => ∃ b, P b h) :: l) w ↔ ∃ b, sat R (P b :: l) w := by
 constructor
 ·rintro ⟨ok, h, ⟨h1, h2, ⟨b, a⟩, r⟩, d⟩
  exact ⟨b, ok, h, ⟨h1, h2, a, r⟩, d⟩
 ·rintro ⟨b, ok, h, ⟨h1, h2, a, r⟩, d⟩
  exact ⟨ok, h, ⟨h1, h2, ⟨b, a⟩, r⟩, d⟩
theorem Q198 : ∀ {L : List HProp} {h : PHeap} {i : Nat} {c : HProp}, stars L h → L[i]? = some c → ∃ h', c h' ∧ Sub h' h
 | [], _, _, _, _, e => by simp at e
 | c :: L, h, 0, c', ⟨h1, _, a, _, _, s1, _⟩, e => by simp at e; subst e; exact ⟨h1, a, s1⟩
 | c :: L, h, i + 1, c', ⟨_, h2, _, b, _, _, s2⟩, e => let ⟨h', x, y⟩ := Q198 b (by simpa using e); ⟨h', x, y.trans s2⟩

variable {α : Type}
def hdrs (bs : List (Option Addr × Nat)) (xss : List (List α)) : List Value := List.zipWith (fun b xs => .slice b.1 xs.length b.2) bs xss
def inns (F : Fl α) (ei : Nat) (bs : List (Option Addr × Nat)) (xss : List (List α)) : List HProp := List.zipWith (fun b xs => row F ei b.1 xs.length b.2 xs) bs xss
def rows (F : Fl α) (ei e : Nat) (A : Option Addr) (n c : Nat) (xss : List (List α)) : HProp := fun h =>
 ∃ bs : List (Option Addr × Nat), (fun h => bs.length = xss.length ∧ stars (own e 1 A n c (hdrs bs xss) :: inns F ei bs xss) h) h
theorem Q280 {bs : List (Option Addr × Nat)} {xss : List (List α)} (h : bs.length = xss.length) : (hdrs bs xss).length = xss.length := by simp [hdrs, h]
theorem hdrs_app {bs : List (Option Addr × Nat)} {xss : List (List α)} (h : bs.length = xss.length) (b : Option Addr × Nat) (ys : List α) : hdrs (bs ++ [b]) (xss ++ [ys]) = hdrs bs xss ++ [.slice b.1 ys.length b.2] := by
 unfold hdrs
 rw [List.zipWith_append h]
 rfl
theorem inns_app {F : Fl α} {ei : Nat} {bs : List (Option Addr × Nat)} {xss : List (List α)} (h : bs.length = xss.length) (b : Option Addr × Nat) (ys : List α) : inns F ei (bs ++ [b]) (xss ++ [ys]) = inns F ei bs xss ++ [row F ei b.1 ys.length b.2 ys] := by
 unfold inns
 rw [List.zipWith_append h]
 rfl
theorem sat.rows {R : Res} {F : Fl α} {ei e : Nat} {A : Option Addr} {n c : Nat} {xss : List (List α)} {l : List HProp} {w : World} :
 sat R (Bw.rows F ei e A n c xss :: l) w ↔ ∃ bs : List (Option Addr × Nat), bs.length = xss.length ∧ sat R (own e 1 A n c (hdrs bs xss) :: (inns F ei bs xss ++ l)) w := by
 unfold Bw.rows
 rw [sat.ex]
 constructor
 ·rintro ⟨bs, h⟩
  have hb : bs.length = xss.length := let ⟨_, o, _⟩ := h.head; o.1
  exact ⟨bs, hb, sat.flat.1 (h.imp fun h o => o.2)⟩
 ·rintro ⟨bs, hb, h⟩
  exact ⟨bs, (sat.flat.2 h).imp fun h o => ⟨hb, o⟩⟩
theorem Q180 {F : Fl α} {ei e : Nat} {A : Option Addr} {n c : Nat} {xss : List (List α)} {h : PHeap} (o : rows F ei e A n c xss h) : xss.length = n ∧ n ≤ c := by
 obtain ⟨bs, hb, h1, _, o, _⟩ := o
 have := o.1
 rw [Q280 hb, Nat.mul_one] at this
 refine ⟨this, ?_⟩
 rcases o.2 with ⟨_, h0, h1⟩ | ⟨g, cur, _, _, h3, _⟩
 ·omega
 ·exact h3
section
variable {P : Program} [Tys P] {os : List Oper} {Q : Exit → Act → World → Prop} {rest : List Oper} {n : Nat} {ds : List Deferred} {R : Res} {env : List (Nat × Value)} {l l' : List HProp}
variable {d ty : Nat} {pos : String} {af : Array Edge} {g : Option (Nat × Bool)} [Inhabited α] {F : Fl α} {e ei t : Nat} {A : Option Addr} {c m : Nat} {xss : List (List α)} {ys : List α} {K : Act → World → Prop} {dd : Option Nat}
theorem At.nilRows (F : Fl α) (ei e : Nat) (h : At n ds R env (rows F ei e none 0 0 [] :: l) K) : At n ds R env l K := fun a w e0 hs => h a w e0 (by
 obtain ⟨ok, k, s, d⟩ := hs
 exact ⟨ok, k, Q158 ⟨[], rfl, Q158 ⟨rfl, .inl ⟨rfl, rfl, rfl⟩⟩ trivial⟩ s, d⟩)
theorem At.rowsLen (f : Frt l (rows F ei e A m c xss) l') (h : xss.length = m → m ≤ c → At n ds R env l K) : At n ds R env l K := fun a w e0 hs =>
 let ⟨_, o, _⟩ := (hs.frt f).head
 h (Q180 o).1 (Q180 o).2 a w e0 hs
def Fl.val : Fl { v : Value // v.oneCell' = true } := ⟨1, fun v => [v.1], fun _ => rfl, fun v u hu => by simp at hu; subst hu; exact v.2, by decide⟩
theorem flat_val (vs : List { v : Value // v.oneCell' = true }) : vs.flatMap Fl.val.enc = vs.map (·.1) := by
 induction vs with
 | nil => rfl
 | cons v vs ih => simp [ih, Fl.val]
theorem At.litV (hg : grd os env g = some true) {len : Nat} {ps : Array (Nat × Operand)} {xo : List Operand} {vs : List Value} {ii j : TI} (hi : ti P t = some ii) (hk : ii.k = .slice e) (hj : ti P e = some j) (hjs : j.size = 1)
 (hp : ps.toList = xo.zipIdx.map fun p => (p.2, p.1)) (hv : vals env xo = some vs) (h1 : vs.all (fun v => v.oneCell' && match v with | .agg _ => false | _ => true) = true) (hl : len = vs.length) (hb : Nat.ble len 16777216 = true) (hz : j.zero.length = j.size) (hd : Nat.blt d n = true)
 (h : ∀ A c, At n ds R ((d, .slice A vs.length c) :: env) (own e 1 A vs.length c vs :: l) (wpList P os.toArray Q rest)) :
 At n ds R env l (wpList P os.toArray Q (⟨some d, .buildSlice t len ps, ty, pos, af, g⟩ :: rest)) := by
 have h1' : ∀ v ∈ vs, v.oneCell' = true ∧ v.cells = #[v] := fun v hv => by
  have := List.all_eq_true.1 h1 v hv
  simp only [Bool.and_eq_true] at this
  refine ⟨this.1, ?_⟩
  cases v <;> first | rfl | (simp at this)
 have : Inhabited { v : Value // v.oneCell' = true } := ⟨⟨.nilFunc, rfl⟩⟩
 have key : (vs.attach.map fun v => (⟨v.1, (h1' v.1 v.2).1⟩ : { v : Value // v.oneCell' = true })).map (·.1) = vs := by simp
 refine At.lit hg (xo := xo) (vs := vs) (ys := vs.attach.map fun v => ⟨v.1, (h1' v.1 v.2).1⟩) Fl.val hi hk hj hjs hp hv ?_ (by simp [hl]) (by show Nat.ble (len * 1) _ = true; rw [Nat.mul_one]; exact hb) hz hd fun A c => ?_
 ·apply List.ext_getElem?
  intro q
  by_cases hq : q < vs.length
  ·have hm : vs[q] ∈ vs := List.getElem_mem hq
   simp [hq, Fl.val, (h1' _ hm).2]
  ·rw [List.getElem?_eq_none (by simp; omega), List.getElem?_eq_none (by simp; omega)]
 ·have := h A c
  unfold row
  rw [flat_val, key]
  simpa [Fl.val] using this
theorem At.appendRow (hg : grd os env g = some true) {x y : Operand} {B T : Option Addr} {k cb ct bytes : Nat} {ii j : TI} {l1 l2 : List HProp} (f : Frt l (rows F ei e A m c xss) l1) (f2 : Frt l1 (own e 1 T 1 ct [.slice B k cb]) l2) (f3 : Frt l2 (row F ei B k cb ys) l')
 (hi : ti P t = some ii) (hk : ii.k = .slice e) (hj : ti P e = some j) (hjs : j.size = 1) (hjb : j.bytes = bytes)
 (hx : ev env x = some (.slice A m c)) (hy : ev env y = some (.slice T 1 ct)) (hz : j.zero.length = j.size) (hb : (m + 1) * bytes ≤ 140737488355328) (hb0 : 0 < bytes) (hd : Nat.blt d n = true)
 (h : ∀ A' c', At n ds R ((d, .slice A' (xss ++ [ys]).length c') :: env) (rows F ei e A' (xss ++ [ys]).length c' (xss ++ [ys]) :: l') (wpList P os.toArray Q rest)) :
 At n ds R env l (wpList P os.toArray Q (⟨some d, .call ⟨.builtin .append, #[x, y], #[t, t]⟩, ty, pos, af, g⟩ :: rest)) := Q88 hg rfl hd fun a w e0 hs => by
 -- the pieces, all in sight
 have h1 := hs.frt f
 obtain ⟨bs, hbl, h2⟩ := sat.rows.1 h1
 have hml : xss.length = m := let ⟨_, o, _⟩ := h1.head; (Q180 o).1
 -- the temporary and the row, read off l1
 have hf2 : sat R (own e 1 T 1 ct [.slice B k cb] :: l2) w := (h1.drop).frt f2
 have hf3 : sat R (row F ei B k cb ys :: l') w := hf2.drop.frt f3
 have hkl : ys.length = k := let ⟨_, o, _⟩ := hf3.head; Q97 o
 subst hkl hml
 obtain ⟨ht, oT, sT⟩ := hf2.head
 have hT : ∃ g0 cur, T = some ⟨g0, 0, none⟩ ∧ ht g0 = some (.cells cur e) ∧ cur.toList.take 1 = [.slice B ys.length cb] := by
  rcases oT.2 with ⟨_, h0, _⟩ | ⟨g0, cur, a1, a2, _, _, _, a6⟩
  ·cases h0
  ·exact ⟨g0, cur, a1, a2, by simpa using a6⟩
 obtain ⟨g0, cur, rfl, hg0, hcur⟩ := hT
 have hnews : ∀ j' u, [Value.slice B ys.length cb][j']? = some u → w.cell? ((⟨g0, 0, none⟩ : Addr).add j') = some u := fun j' u hu => by
  have hgw := sT g0 _ hg0
  simp only [wh] at hgw
  rw [Q114, Nat.zero_add]
  rw [← hcur, List.getElem?_take] at hu
  split at hu
  ·simpa [World.cell?, hgw] using hu
  ·cases hu
 -- the list, so that the outer row stands first and what is no more needed is away
 have h3 : sat R (own e 1 A xss.length c (hdrs bs xss) :: (inns F ei bs xss ++ (row F ei B ys.length cb ys :: l'))) w := by
  obtain ⟨ok, hh, ⟨p1, p2, q1, q2, q3, q4, q5⟩, dR, ss⟩ := h2
  obtain ⟨r1, r2, u1, u2, u3, u4, u5⟩ := Q104.1 q2
  have v1 := Q178 f2 u2
  obtain ⟨_, z2, _, z4, _, _, z7⟩ := v1
  have v3 := Q200 (Q178 f3 z4) z7
  exact ⟨ok, hh, ⟨p1, p2, q1, Q104.2 ⟨r1, r2, u1, v3, u3, u4, u5⟩, q3, q4, q5⟩, dR, ss⟩
 obtain ⟨ho, oo, so⟩ := h3.head
 obtain ⟨xi, z, hxi, hsz, hby, hze, hzc⟩ := (Q13 hj).info
 have hm : xss.length + 1 ≤ maxLen := by
  have : xss.length + 1 ≤ (xss.length + 1) * bytes := Nat.le_mul_of_pos_right _ hb0
  simp only [maxLen]; omega
 obtain ⟨v', w', hr, ho', hgr, _, hob⟩ := run_append_own_at (P := P) w 0 t ty e xi z 1 bytes ((Q13 hi).slice hk) hxi hze (by omega) (by omega) (by rw [hzc]; simp; omega) (by decide) (.slice A xss.length c) xss.length (hdrs bs xss) (Q254 oo so) ⟨g0, 0, none⟩ 1 ct [.slice B ys.length cb] (by simp) hnews (by simp [Value.oneCell']) hm hb (Nat.zero_le _)
 obtain ⟨A', c', rfl, h4⟩ := h3.grown hgr (Q292 _ hr) ho' (hob.imp id fun e => ⟨_, e, Nat.le_refl _⟩)
 refine ⟨.slice A' (xss.length + 1) c', w', Bw.rows F ei e A' (xss.length + 1) c' (xss ++ [ys]) :: l', ?_, ?_, by have := h A' c'; simpa using this⟩
 ·simp only [execOp, resolve, invoke, builtin, Sem.run_bind, Sem.run_pure, Result.andThen_ok, List.map_toArray, List.map_cons, List.map_nil, e0.ev hx, e0.ev hy, hr]
 ·refine sat.rows.2 ⟨bs ++ [(B, cb)], by simp [hbl], ?_⟩
  rw [hdrs_app hbl, inns_app hbl, List.append_assoc]
  exact h4
theorem rows_rd {h H : PHeap} (o : rows F ei e A m c xss h) (s : Sub h H) : RdS F.rep.slice H A xss := fun i x hx => by
 have hi : i < xss.length := (List.getElem?_eq_some_iff.1 hx).1
 obtain ⟨bs, hb, h1, h2, ow, inn, _, s1, s2⟩ := o
 have hbi : i < bs.length := by omega
 have hrow : (inns F ei bs xss)[i]? = some (row F ei bs[i].1 x.length bs[i].2 x) := by
  unfold inns
  rw [List.getElem?_zipWith, List.getElem?_eq_getElem hbi, hx]
 obtain ⟨h', ro, sr⟩ := Q198 inn hrow
 have hm : (hdrs bs xss)[i]? = some (.slice bs[i].1 x.length bs[i].2) := by
  unfold hdrs
  rw [List.getElem?_zipWith, List.getElem?_eq_getElem hbi, hx]
 have hlen : xss.length = m := by have := ow.1; rw [Q280 hb, Nat.mul_one] at this; exact this
 rcases ow.2 with ⟨_, h0, _⟩ | ⟨g, cur, rfl, hg, h3, h4, h5, h6⟩
 ·omega
 ·refine ⟨_, [.slice bs[i].1 x.length bs[i].2], rfl, ⟨bs[i].1, bs[i].2, rfl, Q167 ro, Q176 ro (sr.trans (s2.trans s))⟩, fun j u hu => ?_⟩
  match j, hu with
  | 0, hu =>
   simp at hu
   subst hu
   rw [Q118, Q114, Nat.zero_add, show (i * (F.rep.slice).sz + 0) = i from by show i * 1 + 0 = i; omega]
   refine ⟨cur, e, (0, 0), s g _ (s1 g _ hg), rfl, ?_⟩
   rw [← h6, List.getElem?_take] at hm
   split at hm
   ·simpa using hm
   ·cases hm
theorem At.freezeRows (f : Frt l (rows F ei e A m c xss) l')
 (k : ∀ R', RdS F.rep.slice R'.heap A xss → xss.length = m → m ≤ c → Sub R.heap R'.heap → (∀ l w, sat R' l w → sat R (rows F ei e A m c xss :: l) w) → At n ds R' env l' K) : At n ds R env l K := fun a w e0 hs => by
 obtain ⟨h1, o, dj, hs'⟩ := (hs.frt f).freeze
 exact k (R.add h1) (rows_rd o (Q95 _ _)) (Q180 o).1 (Q180 o).2 (Q80 dj) (fun l w h => h.thaw o dj) a w e0 hs'
end
end Go.Bw
namespace Go.Bw
open Go Go.RowKit

section
variable {P : Program} [Tys P] {os : List Oper} {Q : Exit → Act → World → Prop} {rest : List Oper} {n : Nat} {ds : List Deferred} {R : Res} {env : List (Nat × Value)} {l l' : List HProp}
variable {d ty : Nat} {pos : String} {af : Array Edge} {g : Option (Nat × Bool)} {e t : Nat} {K : Act → World → Prop} {dd : Option Nat} {c : Code}
theorem At.rounds (k : Nat) (h : At n ds R env l (Code.rounds P c Q k)) : At n ds R env l ((Code.loop c).wp P Q) := fun a w e hs => wp_loop_rounds k (h a w e hs)
theorem At.round {k : Nat} (h : At n ds R env l (c.wp P (Exit.then (Code.rounds P c Q k) Q))) : At n ds R env l (Code.rounds P c Q (k + 1)) := h
theorem Y.ixArr {x y : Operand} {i : Int} {k : IntKind} {m : Nat} {a : Addr} {ii j : TI} (hi : ti P t = some ii) (hk : ii.k = .array m e) (hx : ev env x = some (.pointer (some a))) (hy : ev env y = some (.int k i)) (hj : ti P e = some j) (h0 : 0 ≤ i) (h1 : i < (m : Int)) :
 Y P n ds R env l ⟨dd, .indexAddr t x y, ty, pos, af, g⟩ (.pointer (some (a.add (i.toNat * j.size)))) := fun a' w e0 hs => by
 have hc : 0 ≤ i ∧ i < (m : Int) := ⟨h0, h1⟩
 simp [execOp, Instr.indexAt, e0.ev hx, e0.ev hy, asIntOf, run_underlying ((Q13 hi).array hk), Instr.sureAddr, (Q13 hj).run_sizeOf, hc]
theorem Y.ixSome {x y : Operand} {i : Int} {k : IntKind} {m c : Nat} {a : Addr} {ii j : TI} (hi : ti P t = some ii) (hk : ii.k = .slice e) (hx : ev env x = some (.slice (some a) m c)) (hy : ev env y = some (.int k i)) (hj : ti P e = some j) (h0 : 0 ≤ i) (h1 : i < (m : Int)) :
 Y P n ds R env l ⟨dd, .indexAddr t x y, ty, pos, af, g⟩ (elp (some a) (i.toNat * j.size)) := fun a' w e0 hs => by
 have hc : 0 ≤ i ∧ i < (m : Int) := ⟨h0, h1⟩
 simp [execOp, Instr.indexAt, e0.ev hx, e0.ev hy, asIntOf, run_underlying ((Q13 hi).slice hk), (Q13 hj).run_sizeOf, hc, elp]
theorem Y.ixA {x y : Operand} {i : Int} {k : IntKind} {m : Nat} {cs : List Value} {v : Value} {ii j : TI} (hi : ti P t = some ii) (hk : ii.k = .array m e) (hx : ev env x = some (.agg cs.toArray)) (hy : ev env y = some (.int k i)) (hj : ti P e = some j) (h0 : 0 ≤ i) (h1 : i < (m : Int))
 (hv : partOf P e (i.toNat * j.size) cs = some v) : Y P n ds R env l ⟨dd, .index t x y, ty, pos, af, g⟩ v := fun a' w e0 hs => by
 have hc : 0 ≤ i ∧ i < (m : Int) := ⟨h0, h1⟩
 simp [execOp, Instr.index, e0.ev hx, e0.ev hy, asIntOf, run_underlying ((Q13 hi).array hk), (Q13 hj).run_sizeOf, hc, Q113 hv]
def places (P : Program) [Tys P] : List (Nat × Nat) → Option (List (Nat × Nat))
 | [] => some []
 | (ft, off) :: r => match ti P ft, places P r with
  | some j, some l => some ((off, j.size) :: l)
  | _, _ => none
theorem Q257 {w : World} : ∀ {f : List Field} {fs : List (Nat × Nat)} {pl : List (Nat × Nat)}, f.map (fun f => (f.type, f.offset)) = fs → places P fs = some pl →
 (f.mapM (fun f => Prod.mk f.offset <$> sizeOf f.type : Field → Sem (Nat × Nat))).run P w = .ok pl w
 | [], _, pl, rfl, h => by cases h; rfl
 | f :: r, _, pl, rfl, h => by
  simp only [List.map_cons, places] at h
  split at h
  ·rename_i j l hj hl
   cases h
   simp only [List.mapM_cons, Sem.run_bind, Sem.run_map, (Q13 hj).run_sizeOf, Result.andThen, Sem.run_pure, Q257 rfl hl]
  ·cases h
theorem run_zero {j : TI} (hj : ti P t = some j) (w : World) : ∃ z, (zeroValue t).run P w = .ok z w ∧ z.cells = j.zero.toArray := by
 obtain ⟨x, z, hx, _, _, hz, hc⟩ := (Q13 hj).info
 exact ⟨z, by simp [zeroValue, typeInfo, hx, hz], hc⟩
theorem Y.build {parts : Array (Nat × Operand)} {is : List Nat} {xo : List Operand} {vs cs : List Value} {fs pl : List (Nat × Nat)} {ii : TI} (hi : ti P t = some ii) (hk : ii.k = .struct fs) (hp : parts.toList = is.zip xo) (hv : vals env xo = some vs) (hl : places P fs = some pl)
 (hf : Instr.fill (fun i => pl[i]?) ii.zero.toArray (is.zip vs) = some cs.toArray) : Y P n ds R env l ⟨dd, .build t parts, ty, pos, af, g⟩ (.agg cs.toArray) := fun a w e0 hs => by
 obtain ⟨fl, hu, hm⟩ := (Q13 hi).struct hk
 obtain ⟨z, hz, hc⟩ := run_zero hi w
 have h1 := Q143 e0 hv
 have h2 : parts.map (fun p => (p.1, a.eval p.2)) = (is.zip vs).toArray := by
  apply Array.ext'
  rw [Array.toList_map, hp, ← h1]
  clear hp hv hf h1
  induction is generalizing xo with
  | nil => simp
  | cons i is ih => cases xo with
   | nil => simp
   | cons x xo => simpa using ih
 have h3 := Q257 (P := P) (w := w) hm hl
 obtain ⟨fl⟩ := fl
 have h4 : Instr.fill (fun i => pl.toArray[i]?) ii.zero.toArray (is.zip vs) = some cs.toArray := by simpa using hf
 have h5 : (Array.mapM (fun f => Prod.mk f.offset <$> sizeOf f.type : Field → Sem (Nat × Nat)) fl.toArray).run P w = .ok pl.toArray w := by
  rw [List.mapM_toArray, Sem.run_map, h3]
  rfl
 have h6 : (fun f : Field => (do pure (f.offset, ← sizeOf f.type) : Sem (Nat × Nat))) = fun f => Prod.mk f.offset <$> sizeOf f.type := by
  funext f
  simp
 simp only [execOp, Instr.build, Sem.run_bind, hz, Result.andThen, run_underlying hu, hc, h6, h5, h2, h4, Sem.run_pure]

def onN (K : Act → World → Prop) : Exit → Act → World → Prop := fun e a w => e = .normal ∧ K a w
theorem not_out {K : Act → World → Prop} : ¬ LetsOut (onN K) := fun ⟨_, _, h, _⟩ => by cases h
theorem upon_onN {o : Oper} {a : Act} {K K' : Act → World → Prop} {r : Result Next} (h : o.upon P a (onN K' .normal) (onN K') r) : o.upon P a K' (onN K) r := by
 cases r with
 | ok x w' =>
  cases x <;> simp only [Oper.upon] at h ⊢
  case value v => exact h.2
  case skip => exact h.2
  case defer => exact h.2
  case enter f args =>
   refine Calls.mono h fun e w'' he => ?_
   cases e with
   | returned u => exact he.2
   | panicked c => exact absurd he.1 (by simp)
   | outgrown => exact (not_out he).elim
  case row => exact Rows.mono h fun v w'' he => he.2
 | halt x w' =>
  cases x <;> simp only [Oper.upon] at h ⊢
  case panic => exact absurd h.1 (by simp)
theorem Q308 {ops : Array Oper} {i : Nat} {o : Oper} {K K' : Act → World → Prop} {a : Act} {w : World} (hi : ops[i]? = some o) (h : wpList P ops (onN K') [o] a w) : wpOp P ops (onN K) i K' a w := by
 unfold wpOp
 simp only [hi]
 unfold wpList at h
 split
 ·rename_i hw
  rw [if_pos hw] at h
  rcases h with h | ⟨_, h⟩
  ·exact .inl (upon_onN h)
  ·exact (not_out h).elim
 ·rename_i hw
  rw [if_neg hw] at h
  exact h.2
def At.H (P : Program) (n : Nat) (ds : List Deferred) (R : Res) (env : List (Nat × Value)) (l : List HProp) (os : List Oper) (S : World → Prop) (fuel : Nat) (listed : Array Bool) (K : Act → World → Prop) : Prop :=
 At n ds R env l (wpAnyH P .any os.toArray (onN K) S fuel listed)
def At.HO (P : Program) (n : Nat) (ds : List Deferred) (R : Res) (env : List (Nat × Value)) (l : List HProp) (os : List Oper) (S : World → Prop) (fuel : Nat) (listed : Array Bool) (K : Act → World → Prop) (i : Nat) : Prop :=
 At n ds R env l (wpOp P os.toArray (onN K) i fun a w => S w ∧ wpAnyH P .any os.toArray (onN K) S fuel (listed.setIfInBounds i true) a w)
inductive Keep : List HProp → List HProp → Prop
 | n {k : List HProp} : Keep k []
 | c {k k' m : List HProp} {p : HProp} : Frt k p k' → Keep k' m → Keep k (p :: m)
theorem Keep.stars {l m : List HProp} (k : Keep l m) : ∀ {h : PHeap}, stars l h → stars m h := by
 induction k with
 | n => intro h _; trivial
 | c f _ ih =>
  intro h s
  obtain ⟨h1, h2, a, b, d, s1, s2⟩ := Q178 f s
  exact ⟨h1, h2, a, ih b, d, s1, s2⟩
theorem sat.keep {l m : List HProp} {w : World} (k : Keep l m) (h : sat R l w) : sat R m w := let ⟨ok, k1, s, d, u⟩ := h; ⟨ok, k1, k.stars s, d, u⟩
theorem At.held [Mixed P] {id : Nat} {os : List Oper} (Ls : List HProp) (k : Nat) (hk : os.length = k) (h : At.H P n ds R env l os (sat R Ls) k (Array.replicate k false) (Q .normal)) : At n ds R env l ((Code.region id os.toArray true).wp P Q) := fun a w e hs => by
 subst hk
 exact
 wp_mono (Q := onN (Q .normal)) (wp_region_held Mixed.mixed (by simpa using h a _ e hs.drew)) fun e' a' w' h' => by obtain ⟨rfl, h'⟩ := h'; exact h'
variable {S : World → Prop} {fuel : Nat} {listed listed' : Array Bool} {Ls : List HProp}
theorem At.H.take (i : Nat) {o : Oper} {v : Value} (hi : os[i]? = some o) (hs : Region.noSelect os.toArray = true) (hf : Region.free .any os.toArray listed i = true) (hr : (Region.ready .any os.toArray listed).contains i = true)
 (y : Y P n ds R env Ls o v) (hg : grd os env o.guard = some true) (hdst : o.dst = some d) (hd : Nat.blt d n = true) (kp : Keep l Ls)
 (k : At.H P n ds R ((d, v) :: env) l os (sat R Ls) fuel (listed.setIfInBounds i true) K) : At.H P n ds R env l os (sat R Ls) (fuel + 1) listed K := fun a w e hs' => by
 refine wpAnyH_take (i := i) (v := v) (by simpa using hi) hs hf hr (fun c a w h => absurd h.1 (by simp)) (.inl ⟨Q76 e hg, fun w hS => y a w e hS⟩) (hs'.keep kp) ?_
 rw [hdst]
 exact k _ _ (e.put hd v) hs'
theorem At.H.pv (i : Nat) {o : Oper} {v : Value} (hi : os[i]? = some o) (hs : Region.noSelect os.toArray = true) (hf : Region.free .any os.toArray listed i = true) (hr : (Region.ready .any os.toArray listed).contains i = true)
 (y : Bw.pv P env o.op = some v) (hg : grd os env o.guard = some true) (hdst : o.dst = some d) (hd : Nat.blt d n = true) (kp : Keep l Ls)
 (k : At.H P n ds R ((d, v) :: env) l os (sat R Ls) fuel (listed.setIfInBounds i true) K) : At.H P n ds R env l os (sat R Ls) (fuel + 1) listed K :=
 At.H.take i hi hs hf hr (fun a w e _ => pv_ok e y) hg hdst hd kp k
theorem At.H.all (rs : List Nat) (hr : Region.ready .any os.toArray listed = rs) (hne : rs.isEmpty = false) (h : ∀ i ∈ rs, At.HO P n ds R env l os S fuel listed K i) : At.H P n ds R env l os S (fuel + 1) listed K := fun a w e hs =>
 wpAnyH_all hr (fun h0 => by rw [h0] at hne; cases hne) fun i hi => h i hi a w e hs
theorem Q7 {p : Nat → Prop} {i : Nat} {r : List Nat} (h : p i) (h' : ∀ j ∈ r, p j) : ∀ j ∈ i :: r, p j := fun j hj => by
 rcases List.mem_cons.1 hj with rfl | hj
 ·exact h
 ·exact h' j hj
theorem Q8 {p : Nat → Prop} : ∀ j ∈ ([] : List Nat), p j := fun _ h => by cases h
theorem At.HO.op {i : Nat} {o : Oper} (hi : os[i]? = some o) (h : At n ds R env l (wpList P os.toArray (onN fun a w => S w ∧ wpAnyH P .any os.toArray (onN K) S fuel (listed.setIfInBounds i true) a w) [o])) : At.HO P n ds R env l os S fuel listed K i := fun a w e hs =>
 Q308 (by simpa using hi) (h a w e hs)
theorem At.HO.back (kp : Keep l Ls) (h : At.H P n ds R env l os (sat R Ls) fuel listed K) : At n ds R env l (wpList P os.toArray (onN fun a w => sat R Ls w ∧ wpAnyH P .any os.toArray (onN K) (sat R Ls) fuel listed a w) []) := fun a w e hs =>
 ⟨rfl, hs.keep kp, h a w e hs⟩
theorem At.H.done (hr : Region.ready .any os.toArray listed = []) (h : At n ds R env l K) : At.H P n ds R env l os S fuel listed K := fun a w e hs => wpAnyH_done hr ⟨rfl, h a w e hs⟩ _
end

end Go.Bw
namespace Go.Bw
open Go
section
variable {P : Program} [Tys P] {os : List Oper} {n : Nat} {ds : List Deferred} {R : Res} {env : List (Nat × Value)} {l Ls : List HProp} {K : Act → World → Prop} {listed : Array Bool} {fuel d : Nat} {S : World → Prop}
theorem At.H.pw (i : Nat) {o : Oper} {v : Value} (hi : os[i]? = some o) (y : Bw.pv P env o.op = some v) (hg : grd os env o.guard = some true) (hdst : o.dst = some d) (hd : Nat.blt d n = true) (kp : Keep l Ls)
 (k : At.H P n ds R ((d, v) :: env) l os (sat R Ls) fuel (listed.setIfInBounds i true) K) (hs : Region.noSelect os.toArray = true := by kernel_rfl) (hf : Region.free .any os.toArray listed i = true := by kernel_rfl) (hr : (Region.ready .any os.toArray listed).contains i = true := by kernel_rfl) : At.H P n ds R env l os (sat R Ls) (fuel + 1) listed K :=
 At.H.pv i hi hs hf hr y hg hdst hd kp k
theorem At.H.tw (i : Nat) {o : Oper} {v : Value} (hi : os[i]? = some o) (y : Y P n ds R env Ls o v) (hg : grd os env o.guard = some true) (hdst : o.dst = some d) (hd : Nat.blt d n = true) (kp : Keep l Ls)
 (k : At.H P n ds R ((d, v) :: env) l os (sat R Ls) fuel (listed.setIfInBounds i true) K) (hs : Region.noSelect os.toArray = true := by kernel_rfl) (hf : Region.free .any os.toArray listed i = true := by kernel_rfl) (hr : (Region.ready .any os.toArray listed).contains i = true := by kernel_rfl) : At.H P n ds R env l os (sat R Ls) (fuel + 1) listed K :=
 At.H.take i hi hs hf hr y hg hdst hd kp k
theorem At.H.al (rs : List Nat) (h : ∀ i ∈ rs, At.HO P n ds R env l os S fuel listed K i) (hr : Region.ready .any os.toArray listed = rs := by kernel_rfl) (hne : rs.isEmpty = false := by rfl) : At.H P n ds R env l os S (fuel + 1) listed K := At.H.all rs hr hne h
end
end Go.Bw
namespace Go.Bw
open Go Go.RowKit

section
variable {α : Type}
theorem frt_app {L l l' : List HProp} {c : HProp} (f : Frt l c l') : Frt (L ++ l) c (L ++ l') := by
 induction L with
 | nil => exact f
 | cons x L ih => exact .s ih
end
section
variable {P : Program} [Tys P] {os : List Oper} {Q : Exit → Act → World → Prop} {rest : List Oper} {n : Nat} {ds : List Deferred} {R : Res} {env : List (Nat × Value)} {l l' : List HProp}
variable {d ty : Nat} {pos : String} {af : Array Edge} {g : Option (Nat × Bool)} {α : Type} {F : Fl α} {e ei t : Nat} {A : Option Addr} {c m : Nat} {xss : List (List α)} {ys : List α} {K : Act → World → Prop} {dd : Option Nat}
theorem sat_some {xs : List α} {w : World} (f : Frt l (row F e A m c xs) l') [Inhabited α] {i : Int} (h0 : 0 ≤ i) (h1 : i < (m : Int)) (hs : sat R l w) : ∃ ad, A = some ad := by
 have hs1 := hs.frt f
 have hm : xs.length = m := let ⟨_, o, _⟩ := hs1.head; Q97 o
 subst hm
 exact Q271 hs1 h0 h1
theorem Y.faOwn [Inhabited α] {xs : List α} {s : Nat} {fi k off : Nat} {ft : Nat} {fs : List (Nat × Nat)} {x : Operand} {ii j : TI} (f : Frt l (row F e A m c xs) l') {i : Int} (h0 : 0 ≤ i) (h1 : i < (m : Int)) (hi : ti P s = some ii) (hk : ii.k = .struct fs) (hf : fs[fi]? = some (ft, off)) (hj : ti P ft = some j) (hz : Nat.beq j.size 0 = false)
 (hx : ev env x = some (elp A k)) : Y P n ds R env l ⟨dd, .fieldAddr s x fi, ty, pos, af, g⟩ (elp A (k + off)) := fun a w e0 hs =>
 Y.fa (sat_some f h0 h1 hs) hi hk hf hj hz hx a w e0 hs
theorem At.of {env' : List (Nat × Value)} (h : At n ds R env' l K) (s : SubEnv env env') : At n ds R env l K := At.sub s h
theorem At.Quiet.of {env' : List (Nat × Value)} (h : At.Quiet P n ds R env' l os rest K) (s : SubEnv env env') : At.Quiet P n ds R env l os rest K := At.Quiet.sub s h
def RV (P : Program) (n : Nat) (R : Res) (env : List (Nat × Value)) (l : List HProp) (r : List ResultVar) (vs : List Value) : Prop := ∀ a w, Env n [] env a → sat R l w → (r.mapM (resF a.tmps)).run P w = .ok vs w
theorem RV.nil : RV P n R env l [] [] := fun a w e hs => rfl
theorem RV.tmp {t : Nat} {v : Value} {r : List ResultVar} {vs : List Value} (hv : look env t = some v) (h : RV P n R env l r vs) : RV P n R env l (.tmp t :: r) (v :: vs) := fun a w e hs => by
 have h1 : a.tmps.getD t undef = v := e.get _ _ hv
 simp only [List.mapM_cons, resF, h1, Sem.run_bind, Sem.run_pure, Result.andThen, h a w e hs]
theorem RV.cell {b t blk off e : Nat} {i : TI} {cs : List Value} {v : Value} {r : List ResultVar} {vs : List Value} (hb : look env b = some (.pointer (some ⟨blk, off, none⟩))) (hi : ti P t = some i) (f : Frt l (pt blk (.cells cs.toArray e)) l')
 (hl : Nat.ble (off + i.size) cs.length = true) (hz : Nat.blt 0 i.size = true) (hv : partOf P t off cs = some v) (h : RV P n R env l r vs) : RV P n R env l (.cell b t :: r) (v :: vs) := fun a w e hs => by
 have hbk := (hs.frt f).pt
 have hl' : off + i.size ≤ cs.length := by simpa using hl
 have := Q170 (P := P) (w := w) (a := ⟨blk, off, none⟩) (cs := (cs.drop off).take i.size) (v := v) hi (by simp; omega) (fun j u hu => by
  rw [Q114, cell_of hbk]; exact Q185 hu) (Q190 hi hz hv)
 have h1 : a.tmps.getD b undef = .pointer (some ⟨blk, off, none⟩) := e.get _ _ hb
 simp only [List.mapM_cons, resF, h1, asAddr, Sem.run_bind, Sem.run_pure, Result.andThen, this, h a w e hs]
theorem At.resM {fn : Func} {post : Post} {x : Exit} {r : List ResultVar} {vs : List Value} (hx : x = .ret ∨ x = .normal) (hr : fn.results = r.toArray) (hv : RV P n R env l r vs) (k : At n [] R env l (fun a w => ∃ l', post (resT vs) l' ∧ sat R l' w)) : At n [] R env l (PostB P fn R post x) :=
 At.fin hx fun a w e hs => by
  obtain ⟨l2, hp, hs'⟩ := k a w e hs
  refine ⟨_, l2, ?_, hp, hs'⟩
  have := hv a w e hs
  rw [Q230, hr, List.mapM_toArray]
  simp only [Sem.run_bind, Sem.run_map, this, Result.andThen, Sem.run_pure]
  cases vs with
  | nil => rfl
  | cons v vs =>
   cases vs with
   | nil => rfl
   | cons u vs => simp [resT]
theorem RdS.isNil {T : Rep α} {H : PHeap} {xs : List α} (h : RdS T H none xs) : xs = [] := by
 cases xs with
 | nil => rfl
 | cons x xs => obtain ⟨ad, _, he, _⟩ := h 0 x rfl; cases he
theorem At.H.joinK {X : Type} {S : World → Prop} {fuel : Nat} {listed : Array Bool} (E : X → List (Nat × Value)) (L : X → List HProp) (I : X → Prop) (J : ∀ x, I x → At n ds R (E x) (L x) K)
 (h : (∀ x, I x → At n ds R (E x) (L x) K) → At.H P n ds R env l os S fuel listed K) : At.H P n ds R env l os S fuel listed K := h J
end
end Go.Bw
namespace Go.Bw
open Go Go.RowKit Go.Sort

section
variable {α : Type} [Inhabited α] {enc : α → Value} {w : World} {g n c e : Nat} {os : Array Obj} {cur : Array Value} {xs ys : List α}
theorem Q212 (hb : w.heap[g]? = some (.cells cur e (0, 0))) (ht : cur.toList.take xs.length = xs.map enc) : Holds enc w g 0 xs.toArray := by
 intro j hj
 have hj' : j < xs.length := by simpa using hj
 refine ⟨?_, by simp [World.frozen?, hb]⟩
 have h1 : (cur.toList.take xs.length)[j]? = (xs.map enc)[j]? := by rw [ht]
 rw [List.getElem?_take_of_lt hj'] at h1
 simp only [World.cell?, hb, Nat.zero_add]
 simp only [Option.isSome_none, Bool.false_eq_true, if_false]
 rw [← Array.getElem?_toList, h1]
 simp [hj']
theorem Q266 {fr : Nat × Nat} (d : Array α) (hb : w.heap[g]? = some (.cells cur e fr)) :
 (grow (putRow enc (Sort.ahead w n) g 0 d) os).heap[g]? = some (.cells (putCells enc 0 d cur) e fr) := by
 have hg : g < w.heap.size := (Array.getElem?_eq_some_iff.1 hb).1
 rw [heap_grow_old _ _ (by simpa using hg)]
 simp [putRow, mapBlock, Sort.ahead, Array.getElem?_modify, hb, onCells]
theorem Q227 (d : Array α) : w.grownBy (grow (putRow enc (Sort.ahead w n) g 0 d) os) (some g) := by
 refine ⟨rfl, rfl, rfl, by simp, fun k hk hne => ?_⟩
 rw [heap_grow_old _ _ (by simpa using hk)]
 have : g ≠ k := fun e => hne (by rw [e])
 simp [putRow, mapBlock, Sort.ahead, Array.getElem?_modify, this]
theorem Q253 (cur : Array Value) (ts : List α) (h : ts.length ≤ cur.size) : (putCells enc 0 ts.toArray cur).toList.take ts.length = ts.map enc := by
 apply List.ext_getElem?
 intro j
 by_cases hj : j < ts.length
 ·rw [List.getElem?_take_of_lt hj, Array.getElem?_toList]
  simp [putCells, hj, show j < cur.size by omega]
 ·rw [List.getElem?_take_eq_none (by omega), List.getElem?_eq_none (by simp; omega)]
theorem sat.sorted {R : Res} {l : List HProp} (hs : sat R (own e 1 (some ⟨g, 0, none⟩) xs.length c (xs.map enc) :: l) w) (hl : ys.length = xs.length) :
 sat R (own e 1 (some ⟨g, 0, none⟩) xs.length c (ys.map enc) :: l) (grow (putRow enc (Sort.ahead w n) g 0 ys.toArray) os) := by
 obtain ⟨h, o, s⟩ := hs.head
 rcases o.2 with ⟨h0, _⟩ | ⟨g', cur, h1, hg, h3, h4, h5, h6⟩
 ·cases h0
 ·cases h1
  have hgw : w.heap[g]? = some (.cells cur e) := s g _ hg
  obtain ⟨A', c', hv, hs'⟩ := hs.grown (v' := .slice (some ⟨g, 0, none⟩) xs.length c) (m' := xs.length) (ys := ys.map enc) (Q227 (enc := enc) (n := n) (os := os) ys.toArray) (Nat.le_add_right _ _)
   ⟨by simp [hl], .inr ⟨g, c, _, rfl, Nat.zero_le _, Q266 (enc := enc) _ hgw, h3, h4, by simp [putCells, h5], by
    rw [Nat.mul_one, ← hl]
    exact Q253 cur ys (by rw [Nat.mul_one] at h5; omega)⟩⟩ (.inl rfl)
  cases hv
  exact hs'
end
end Go.Bw
namespace Go.Bw
open Go Go.RowKit Go.Sort Go.Proofs Go.Shelf

theorem flat_int (k : IntKind) (xs : List Int) : xs.flatMap (Fl.int k).enc = xs.map (Value.int k) := by
 induction xs with
 | nil => rfl
 | cons x xs ih => rw [List.flatMap_cons, ih]; rfl
theorem Q205 (k : IntKind) (e : Nat) (A : Option Addr) (n c : Nat) (xs : List Int) : row (Fl.int k) e A n c xs = own e 1 A n c (xs.map (Value.int k)) := by
 unfold row
 rw [flat_int]
 rfl
theorem Q337 {P : Program} {ρ : Ren} (Ly : SlLaysN.n53 P ρ) (R : Res) (l : List HProp) {e n c : Nat} {A : Option Addr} {xs : List Int} (hb : xs.length < 4611686018427387904) :
 Spec P (ρ.f 53) [.slice A n c] R (row (Fl.int .i64) e A n c xs :: l) (fun v l' => v = .tuple #[] ∧ row (Fl.int .i64) e A n c (xs.mergeSort fun x y => decide (x ≤ y)) :: l = l') := fun w hs => by
 obtain ⟨h, o, s⟩ := hs.head
 have hn := Q97 o
 subst hn
 rw [Q205] at o hs
 rcases o.2 with ⟨rfl, h0, rfl⟩ | ⟨g, cur, rfl, hg, h3, h4, h5, h6⟩
 ·have hx : xs = [] := List.eq_nil_of_length_eq_zero h0
  subst hx
  refine (AnyG.slices_Sort_int_none Ly none 0 w).mono fun e w' ⟨he, hw⟩ => ⟨_, _, he, ⟨rfl, rfl⟩, ?_⟩
  subst hw
  rw [Q205]
  simpa using hs
 ·have hgw : w.heap[g]? = some (.cells cur e) := s g _ hg
  have hH : Holds (Value.int .i64) w g 0 xs.toArray := Q212 hgw (by rw [Nat.mul_one] at h6; exact h6)
  refine (AnyG.slices_Sort_int Ly g 0 c xs w hH (Array.getElem?_eq_some_iff.1 hgw).1 hb).mono fun e' w' ⟨he, n, os, hw⟩ => ⟨_, _, he, ⟨rfl, rfl⟩, ?_⟩
  subst hw
  rw [Q205]
  exact sat.sorted hs (by simp)
end Go.Bw
namespace Go.Bw
open Go Go.RowKit Go.Sort Go.Proofs Go.Shelf

theorem Q317 {l : List HProp} : ∀ {L L' : List HProp}, L.Perm L' → ∀ {h : PHeap}, stars (L ++ l) h → stars (L' ++ l) h := by
 intro L L' p
 induction p with
 | nil => exact fun s => s
 | cons x p ih =>
  rintro h ⟨h1, h2, a, b, d, s1, s2⟩
  exact ⟨h1, h2, a, ih b, d, s1, s2⟩
 | swap x y L =>
  intro h s
  exact Q178 (.s .z) s
 | trans p q ih1 ih2 => exact fun s => ih2 (ih1 s)
def hd (W : World) (A : Option Addr) (x : Int) : Prop := ∃ g off, A = some ⟨g, off, none⟩ ∧ W.cell? ⟨g, off, none⟩ = some (.int .i64 x)
end Go.Bw
namespace Go.Bw
open Go Go.RowKit Go.ChangeShapes Go.WideShapes Go.Deep

def Res.of (W : World) : Res := ⟨wh W, W.os, W.tape, W.output, W.drawn⟩
theorem sat_of (W : World) : sat (Res.of W) [] W := ⟨⟨Sub.refl _, rfl, rfl, rfl, Nat.le_refl _⟩, fun _ => none, trivial, (fun _ _ _ e => by cases e), (fun _ _ e => by cases e)⟩
theorem below_of {W w : World} {l : List HProp} (h : sat (Res.of W) l w) : Below W.heap.size W w := by
 obtain ⟨⟨s, h1, h2, h3⟩, _⟩ := h
 have hb : ∀ k, k < W.heap.size → w.heap[k]? = W.heap[k]? := fun k hk => by
  have e : W.heap[k]? = some W.heap[k] := by simp [hk]
  rw [e]
  exact s k _ e
 refine ⟨h1, h2, h3, ?_, hb⟩
 by_cases h0 : W.heap.size = 0
 ·omega
 ·have := hb (W.heap.size - 1) (by omega)
  have e : W.heap[W.heap.size - 1]? = some W.heap[W.heap.size - 1] := by simp [show W.heap.size - 1 < W.heap.size from by omega]
  rw [e] at this
  have := (Array.getElem?_eq_some_iff.1 this).1
  omega
theorem rdA_of {W : World} {a : Addr} {cs : List Value} (h : ∀ j u, cs[j]? = some u → W.cell? (a.add j) = some u) : RdA (wh W) a cs := fun j u hu => by
 have := h j u hu
 unfold World.cell? at this
 split at this
 ·rename_i c e fr he
  split at this
  ·cases this
  ·rename_i hs
   refine ⟨c, e, fr, he, ?_, this⟩
   cases hsp : (a.add j).spot with
   | none => rfl
   | some x => rw [hsp] at hs; exact absurd rfl hs
 ·cases this
end Go.Bw
namespace Go.Bw
open Go Go.RowKit Go.ChangeShapes Go.WideShapes Go.Deep

section
variable {H : Type} {enc : TypeId × Value → H} {P : Program} {W : World} {base : Nat} {held : Bool}
theorem all_sub {e : TypeId} : ∀ {es : List (DataW H)} {d : DataW H}, d ∈ es → ∀ w ∈ DataW.weights P e d, w ∈ DataW.weightsAll P e es
 | x :: es, d, hd => fun w hw => by
  rw [DataW.weightsAll]
  rcases List.mem_cons.1 hd with rfl | hd
  ·simp [hw]
  ·simp [all_sub hd w hw]
end
end Go.Bw
namespace Go.Bw
open Go Go.RowKit

section
variable {α : Type}
def mix (F : Fl α) (e : Nat) (H : PHeap) (A : Option Addr) (n c : Nat) (xs : List α) : HProp := fun h => row F e A n c xs h ∨ (xs.length = n ∧ n ≤ c ∧ RdS F.rep H A xs)
theorem mix_len {F : Fl α} {e : Nat} {H : PHeap} {A : Option Addr} {n c : Nat} {xs : List α} {h : PHeap} (o : mix F e H A n c xs h) : xs.length = n ∧ n ≤ c := by
 rcases o with o | ⟨h1, h2, _⟩
 ·have := Q97 o
  subst this
  exact ⟨rfl, Q167 o⟩
 ·exact ⟨h1, h2⟩
theorem mix_rd {F : Fl α} {e : Nat} {H H' : PHeap} {A : Option Addr} {n c : Nat} {xs : List α} {h : PHeap} (o : mix F e H A n c xs h) (s : Sub h H') (s' : Sub H H') : RdS F.rep H' A xs := by
 rcases o with o | ⟨h1, h2, r⟩
 ·have := Q97 o
  subst this
  exact Q176 o s
 ·exact r.mono s'
end
section
variable {P : Program} [Tys P] {os : List Oper} {Q : Exit → Act → World → Prop} {rest : List Oper} {n : Nat} {ds : List Deferred} {R : Res} {env : List (Nat × Value)} {l l' : List HProp}
variable {d ty : Nat} {pos : String} {af : Array Edge} {g : Option (Nat × Bool)} {α : Type} {F : Fl α} {e ei t : Nat} {H : PHeap} {A : Option Addr} {c m : Nat} {xss yss : List (List α)} {xs ys : List α} {K : Act → World → Prop} {dd : Option Nat}
theorem At.toMix (H : PHeap) (f : Frt l (row F e A m c xs) l') (h : At n ds R env (mix F e H A m c xs :: l') K) : At n ds R env l K := fun a w e0 hs => h a w e0 ((hs.frt f).imp fun _ o => .inl o)
theorem At.mixRd (F : Fl α) (e : Nat) (hr : RdS F.rep H A xs) (hn : xs.length = m) (hc : m ≤ c) (h : At n ds R env (mix F e H A m c xs :: l) K) : At n ds R env l K := fun a w e0 hs => h a w e0 (by
 obtain ⟨ok, k, s, d⟩ := hs
 exact ⟨ok, k, Q158 (.inr ⟨hn, hc, hr⟩) s, d⟩)
theorem At.freezeMix (sb : Sub H R.heap) (f : Frt l (mix F e H A m c xs) l')
 (k : ∀ R', RdS F.rep R'.heap A xs → xs.length = m → m ≤ c → Sub R.heap R'.heap → (∀ l w, sat R' l w → sat R (mix F e H A m c xs :: l) w) → At n ds R' env l' K) : At n ds R env l K := fun a w e0 hs => by
 obtain ⟨h1, o, dj, hs'⟩ := (hs.frt f).freeze
 exact k (R.add h1) (mix_rd o (Q95 _ _) (sb.trans (Q80 dj))) (mix_len o).1 (mix_len o).2 (Q80 dj) (fun l w h => h.thaw o dj) a w e0 hs'
end
end Go.Bw
namespace Go.Bw
open Go Go.RowKit

section
variable {P : Program} [Tys P] {os : List Oper} {Q : Exit → Act → World → Prop} {rest : List Oper} {n : Nat} {ds : List Deferred} {R : Res} {env : List (Nat × Value)} {l l' : List HProp}
variable {d ty : Nat} {pos : String} {af : Array Edge} {g : Option (Nat × Bool)} {e t : Nat} {dd : Option Nat} {w : World}
theorem Y.ixArrK {x y : Operand} {i : Int} {k : IntKind} {m q off : Nat} {b off0 : Nat} {ii j : TI} (hi : ti P t = some ii) (hk : ii.k = .array m e) (hx : ev env x = some (.pointer (some ⟨b, off0, none⟩))) (hy : ev env y = some (.int k i)) (hj : ti P e = some j) (h0 : 0 ≤ i) (h1 : i < (m : Int)) (he : i = (q : Int)) (ho : off = off0 + q * j.size) :
 Y P n ds R env l ⟨dd, .indexAddr t x y, ty, pos, af, g⟩ (.pointer (some ⟨b, off, none⟩)) := by
 subst he
 have := Y.ixArr (P := P) (n := n) (ds := ds) (R := R) (l := l) (ty := ty) (pos := pos) (af := af) (g := g) (dd := dd) hi hk hx hy hj h0 h1
 rw [Q114] at this
 rw [ho]
 simpa using this
def eqcs (P : Program) [Tys P] : List (Nat × Nat) → List Value → List Value → Option Bool
 | [], _, _ => some true
 | (ft, off) :: r, xs, ys => match ti P ft with
  | some j => match j.k, partOf P ft off xs, partOf P ft off ys with
   | .int _, some (.int k a), some (.int k' b) => if k = k' then (eqcs P r xs ys).map (decide (a = b) && ·) else none
   | .bool, some (.bool a), some (.bool b) => (eqcs P r xs ys).map ((a == b) && ·)
   | .string, some (.string a), some (.string b) => (eqcs P r xs ys).map (seq a b && ·)
   | _, _, _ => none
  | none => none
theorem Q195 (a b : ByteArray) : (a == b) = seq a b := (beq_toListBytes a b).trans (seq_eq a b)
theorem Q189 {xs ys : List Value} : ∀ {fl : List Field} {fs : List (Nat × Nat)} {r : Bool}, fl.map (fun f => (f.type, f.offset)) = fs → fl.all (fun f => f.name != "_") = true → eqcs P fs xs ys = some r →
 (Op.eqFields (d + 1) xs.toArray ys.toArray fl).run P w = .ok r w
 | [], _, r, rfl, _, h => by cases h; simp [Op.eqFields]
 | f :: fl, _, r, rfl, hn, h => by
  simp only [List.all_cons, Bool.and_eq_true] at hn
  have hn' : f.name ≠ "_" := by simpa using hn.1
  simp only [List.map_cons, eqcs] at h
  split at h
  ·rename_i j hj
   split at h
   ·rename_i hk hx hy
    split at h
    ·rename_i hkk
     subst hkk
     obtain ⟨q, hq, rfl⟩ := Option.map_eq_some_iff.1 h
     rw [Op.eqFields]
     have hu := (Q13 hj).int hk
     have ih := Q189 rfl hn.2 hq
     simp only [if_pos hn', Sem.run_bind, Q113 hx, Q113 hy, Result.andThen_ok, Op.equalIn, run_underlying hu, if_true, Sem.run_pure, int_beq]
     split
     ·rename_i hc
      simp only [Bool.not_eq_true'] at hc
      rw [hc]
      rfl
     ·rename_i hc
      simp only [Bool.not_eq_true', Bool.not_eq_false] at hc
      rw [hc, ih]
      rfl
    ·cases h
   ·rename_i hk hx hy
    obtain ⟨q, hq, rfl⟩ := Option.map_eq_some_iff.1 h
    rw [Op.eqFields]
    have hu := (Q13 hj).bool hk
    have ih := Q189 rfl hn.2 hq
    simp only [if_pos hn', Sem.run_bind, Q113 hx, Q113 hy, Result.andThen_ok, Op.equalIn, run_underlying hu, Sem.run_pure]
    split
    ·rename_i hc
     simp only [Bool.not_eq_true'] at hc
     rw [hc]
     rfl
    ·rename_i hc
     simp only [Bool.not_eq_true', Bool.not_eq_false] at hc
     rw [hc, ih]
     rfl
   ·rename_i hk hx hy
    obtain ⟨q, hq, rfl⟩ := Option.map_eq_some_iff.1 h
    rw [Op.eqFields]
    have hu := (Q13 hj).string hk
    have ih := Q189 rfl hn.2 hq
    simp only [if_pos hn', Sem.run_bind, Q113 hx, Q113 hy, Result.andThen_ok, Op.equalIn, run_underlying hu, Sem.run_pure]
    rw [← Q195]
    split
    ·rename_i hc
     simp only [Bool.not_eq_true'] at hc
     rw [hc]
     rfl
    ·rename_i hc
     simp only [Bool.not_eq_true', Bool.not_eq_false] at hc
     rw [hc, ih]
     rfl
   ·cases h
  ·cases h
def named (P : Program) (t : Nat) : Bool := (P.fieldsOf t).toList.all (fun f => f.name != "_")
theorem Q211 {fs : List (Nat × Nat)} {xs ys : List Value} {ii : TI} {r : Bool} (hi : ti P t = some ii) (hk : ii.k = .struct fs) (hn : named P t = true) (hp : P.stoodInHeld t = false) (h : eqcs P fs xs ys = some r) :
 (Op.equal t (.agg xs.toArray) (.agg ys.toArray)).run P w = .ok r w := by
 obtain ⟨fl, hu, hm⟩ := (Q13 hi).struct hk
 have hf : P.fieldsOf t = fl := by simp [Program.fieldsOf, hu]
 show (Op.equalIn (9999 + 1) t (.agg xs.toArray) (.agg ys.toArray)).run P w = _
 rw [run_equalIn_struct (P := P) (w := w) 9999 t xs.toArray ys.toArray (by rw [hf]; exact hu) hp, hf]
 unfold named at hn
 rw [hf] at hn
 exact Q189 hm hn h
theorem Y.eqSt {x y : Operand} {yt : Nat} {fs : List (Nat × Nat)} {xs ys : List Value} {ii : TI} {r : Bool} (hi : ti P t = some ii) (hk : ii.k = .struct fs) (hx : ev env x = some (.agg xs.toArray)) (hy : ev env y = some (.agg ys.toArray)) (hn : named P t = true) (hp : P.stoodInHeld t = false) (hgt : P.eqGuardType P.depth t = false) (h : eqcs P fs xs ys = some r) :
 Y P n ds R env l ⟨dd, .binOp .eql t x y yt, ty, pos, af, g⟩ (.bool r) := fun a' w e0 hs => by
 simp [execOp, e0.ev hx, e0.ev hy, eqGuard, binOp, Q211 hi hk hn hp h, hgt]
theorem Y.neSt {x y : Operand} {yt : Nat} {fs : List (Nat × Nat)} {xs ys : List Value} {ii : TI} {r : Bool} (hi : ti P t = some ii) (hk : ii.k = .struct fs) (hx : ev env x = some (.agg xs.toArray)) (hy : ev env y = some (.agg ys.toArray)) (hn : named P t = true) (hp : P.stoodInHeld t = false) (hgt : P.eqGuardType P.depth t = false) (h : eqcs P fs xs ys = some r) :
 Y P n ds R env l ⟨dd, .binOp .neq t x y yt, ty, pos, af, g⟩ (.bool (!r)) := fun a' w e0 hs => by
 simp [execOp, e0.ev hx, e0.ev hy, eqGuard, binOp, Q211 hi hk hn hp h, hgt]
end
end Go.Bw
namespace Go.Bw
open Go Go.RowKit

noncomputable def recE {ρ : Type} (n : Nat → Option ρ) : Option ρ := open Classical in if h : ∃ r k, n k = some r then some (Classical.choose h) else none
noncomputable def recF {ρ : Type} (n : Nat → Option ρ) : Option ρ := match n 100 with | some r => some r | none => recE n
theorem recE_some {ρ : Type} {n : Nat → Option ρ} {r : ρ} (h : recE n = some r) : ∃ k, n k = some r := by
 unfold recE at h
 split at h
 ·rename_i hx
  cases h
  exact Classical.choose_spec hx
 ·cases h
theorem Q278 {ρ : Type} {n : Nat → Option ρ} {r : ρ} (h : recF n = some r) : ∃ k, n k = some r := by
 unfold recF at h
 split at h
 ·rename_i r' hx
  cases h
  exact ⟨100, hx⟩
 ·exact recE_some h
theorem recF_of {ρ : Type} {n : Nat → Option ρ} {Q : ρ → Prop} (h1 : ∃ k, (n k).isSome = true) (h2 : ∀ k r, n k = some r → Q r) : ∃ r, recF n = some r ∧ Q r := by
 obtain ⟨k, hk⟩ := h1
 obtain ⟨r, hr⟩ := Option.isSome_iff_exists.1 hk
 have hx : ∃ r k, n k = some r := ⟨r, k, hr⟩
 unfold recF
 split
 ·rename_i r' h'
  exact ⟨r', rfl, h2 100 _ h'⟩
 refine ⟨Classical.choose hx, ?_, ?_⟩
 ·unfold recE
  rw [dif_pos hx]
 ·obtain ⟨k, hk⟩ := Classical.choose_spec hx
  exact h2 k _ hk
end Go.Bw
namespace Go.Bw
open Go Go.RowKit

abbrev Bs := List UInt8
def Fl.bs : Fl Bs := ⟨1, fun x => [.string ⟨x.toArray⟩], fun _ => rfl, fun _ u hu => by simp at hu; subst hu; rfl, by decide⟩
def bseq (x y : Bs) : Bool := seq ⟨x.toArray⟩ ⟨y.toArray⟩
def bat (x : Bs) (i : Int) : Int := ((x.getD i.toNat 0).toNat : Int)
def bsl (x : Bs) (i j : Int) : Bs := (x.drop i.toNat).take (j.toNat - i.toNat)
section
variable {P : Program} [Tys P] {os : List Oper} {Q : Exit → Act → World → Prop} {rest : List Oper} {n : Nat} {ds : List Deferred} {R : Res} {env : List (Nat × Value)} {l l' : List HProp}
variable {d ty t : Nat} {pos : String} {af : Array Edge} {g : Option (Nat × Bool)} {dd : Option Nat} {xs ys : Bs}
theorem Q173 (xs : Bs) : (ByteArray.mk xs.toArray).size = xs.length := by simp [ByteArray.size]
theorem Y.ixStr {x y : Operand} {i : Int} {k : IntKind} {ii : TI} (hi : ti P t = some ii) (hk : ii.k = .string) (hx : ev env x = some (.string ⟨xs.toArray⟩)) (hy : ev env y = some (.int k i)) (h0 : 0 ≤ i) (h1 : i < (xs.length : Int)) :
 Y P n ds R env l ⟨dd, .index t x y, ty, pos, af, g⟩ (.int .u8 (bat xs i)) := fun a w e hs => by
 have hc : 0 ≤ i ∧ i < (ByteArray.mk xs.toArray).size := ⟨h0, by rw [Q173]; exact h1⟩
 have h2 : i.toNat < xs.length := by omega
 simp only [execOp, e.ev hx, e.ev hy, Sem.run_bind, run_index_string (P := P) w t _ k i ((Q13 hi).string hk), dif_pos hc, Result.andThen, Sem.run_pure]
 congr 3
 unfold bat
 rw [List.getD_eq_getElem?_getD, List.getElem?_eq_getElem h2]
 rfl
theorem Y.slStrLH {x y z : Operand} {i j : Int} {k k' : IntKind} {ii : TI} (hi : ti P t = some ii) (hk : ii.k = .string) (hx : ev env x = some (.string ⟨xs.toArray⟩)) (hy : ev env y = some (.int k i)) (hz : ev env z = some (.int k' j)) (h0 : 0 ≤ i) (h1 : i ≤ j) (h2 : j ≤ (xs.length : Int)) :
 Y P n ds R env l ⟨dd, .slice t x (some y) (some z) none, ty, pos, af, g⟩ (.string ⟨(bsl xs i j).toArray⟩) := fun a w e hs => by
 have ht := (Q13 hi).string hk
 simp only [execOp, e.ev hx, e.ev hy, e.ev hz, Option.map_none, Option.map_some, Sem.run_bind, run_sliceAt_string (P := P) w t _ _ _ _ ht, run_slice_string (P := P) w t _ k k' i j ht h0 h1 (by rw [Q173]; exact h2), Result.andThen, Sem.run_pure, ByteArray.extract_mk]
 rfl
theorem Y.slStrL {x y : Operand} {i : Int} {k : IntKind} {ii : TI} (hi : ti P t = some ii) (hk : ii.k = .string) (hx : ev env x = some (.string ⟨xs.toArray⟩)) (hy : ev env y = some (.int k i)) (h0 : 0 ≤ i) (h1 : i ≤ (xs.length : Int)) :
 Y P n ds R env l ⟨dd, .slice t x (some y) none none, ty, pos, af, g⟩ (.string ⟨(xs.drop i.toNat).toArray⟩) := fun a w e hs => by
 have ht := (Q13 hi).string hk
 have hc : 0 ≤ i ∧ i ≤ (xs.length : Int) := ⟨h0, h1⟩
 have hl : (xs.drop i.toNat).take (xs.length - i.toNat) = xs.drop i.toNat := List.take_of_length_le (by simp)
 simp only [execOp, e.ev hx, e.ev hy, Option.map_none, Option.map_some, Sem.run_bind, run_sliceAt_string (P := P) w t _ _ _ _ ht, run_slice_string_from_if (P := P) w t _ k i ht, if_pos hc, Result.andThen, Sem.run_pure, ByteArray.extract_mk, Q173, hl]
structure ExtOk (P : Program) (f : Nat) (x : Array Value → Sem Value) : Prop where
 ok : ∃ fn, P.funcs[f]? = some fn ∧ (fn.name == "runtime.NumGoroutine") = false ∧ fn.body.isNone = true ∧ Extern.findNext fn = none ∧ Extern.find fn = some x
theorem Y.ext {x : Operand} {zs : List Operand} {ts : Array Nat} {f : Nat} {vs : List Value} {v : Value} {ex : Array Value → Sem Value} (c : ExtOk P f ex) (hx : ev env x = some (.func (.func f) #[] #[])) (hv : vals env zs = some vs) (hr : ∀ w, (ex vs.toArray).run P w = .ok v w) :
 Y P n ds R env l ⟨dd, .call ⟨.value x, zs.toArray, ts⟩, ty, pos, af, g⟩ v := fun a w e hs => by
 obtain ⟨fn, h1, h2, h3, h4, h5⟩ := c.ok
 have := Q143 e hv
 simp [execOp, resolve, Deferred.ofValue, invoke, e.ev hx, run_callFunc_extern h1 h2 h3 h4 h5, this, hr, Result.andThen]
end
theorem Q312 {P : Program} (x y : Bs) (w : World) : (Extern.BytealgCompare.compare #[.string ⟨x.toArray⟩, .string ⟨y.toArray⟩]).run P w = .ok (.int .i64 (Lib.compareBytes x y)) w := Lib.run_compareString _ _ w
theorem Q301 {P : Program} (x : Bs) (c : Int) (w : World) : (Extern.BytealgIndexByte.indexByte #[.string ⟨x.toArray⟩, .int .u8 c]).run P w = .ok (.int .i64 (Lib.indexByte x c.toNat.toUInt8)) w := Lib.run_indexByteString _ _ w
theorem Q164 {x y : Bs} : bseq x y = true ↔ x = y := by
 unfold bseq seq
 simp
end Go.Bw
namespace Go.Bw
open Go Go.RowKit

def runeAt (x : Bs) (k : Nat) : Int := ((Utf8.decode ⟨x.toArray⟩ k).1 : Int)
def runeLen (x : Bs) (k : Nat) : Nat := (Utf8.decode ⟨x.toArray⟩ k).2
section
variable {P : Program} [Tys P] {os : List Oper} {Q : Exit → Act → World → Prop} {rest : List Oper} {n : Nat} {ds : List Deferred} {R : Res} {env : List (Nat × Value)} {l l' : List HProp}
variable {d ty t : Nat} {pos : String} {af : Array Edge} {g : Option (Nat × Bool)} {dd : Option Nat} {xs ys : Bs} {K : Act → World → Prop}
theorem Q283 {w : World} {b : Nat} {s : ByteArray} {k : Nat} (h : w.heap[b]? = some (.stringIter s k)) : (getObj b).run P w = .ok (.stringIter s k) w := by simp [getObj, Sem.run, h]
theorem run_setIt {w : World} {b : Nat} {s : ByteArray} {k : Nat} (o : Obj) (h : w.heap[b]? = some (.stringIter s k)) : (setObj b o).run P w = .ok () { w with heap := w.heap.setIfInBounds b o } := by simp [setObj, Sem.run, h]
theorem At.rangeStr {x : Operand} {ii : TI} (hg : grd os env g = some true) (hi : ti P t = some ii) (hk : ii.k = .string) (hx : ev env x = some (.string ⟨xs.toArray⟩)) (hd : Nat.blt d n = true)
 (h : ∀ b, At n ds R ((d, .pointer (some ⟨b, 0, none⟩)) :: env) (pt b (.stringIter ⟨xs.toArray⟩ 0) :: l) (wpList P os.toArray Q rest)) :
 At n ds R env l (wpList P os.toArray Q (⟨some d, .range t x, ty, pos, af, g⟩ :: rest)) := Q88 hg rfl hd fun a w e hs => by
 refine ⟨_, _, _, ?_, hs.alloc (.stringIter ⟨xs.toArray⟩ 0), h _⟩
 simp [execOp, Instr.range, e.ev hx, run_underlying ((Q13 hi).string hk)]
theorem At.nextT {x : Operand} {b k : Nat} (hg : grd os env g = some true) (hx : ev env x = some (.pointer (some ⟨b, 0, none⟩))) (f : Frt l (pt b (.stringIter ⟨xs.toArray⟩ k)) l') (hk : k < xs.length) (hd : Nat.blt d n = true)
 (h : At n ds R ((d, .tuple #[.bool true, .int .i64 (k : Int), .int .i32 (runeAt xs k)]) :: env) (pt b (.stringIter ⟨xs.toArray⟩ (k + runeLen xs k)) :: l') (wpList P os.toArray Q rest)) :
 At n ds R env l (wpList P os.toArray Q (⟨some d, .next x true, ty, pos, af, g⟩ :: rest)) := Q88 hg rfl hd fun a w e hs => by
 have hs1 := hs.frt f
 have hb := hs1.pt
 have hlt : b < w.heap.size := (Array.getElem?_eq_some_iff.1 hb).1
 have hk' : k < (ByteArray.mk xs.toArray).size := by rw [Q173]; exact hk
 have hsz : (ByteArray.mk xs.toArray).size = xs.length := Q173 xs
 refine ⟨_, { w with heap := w.heap.setIfInBounds b (.stringIter ⟨xs.toArray⟩ (k + runeLen xs k)) }, _, ?_, ?_, h⟩
 ·simp only [execOp, Instr.next, e.ev hx, Sem.run_bind, Q283 hb, Result.andThen, if_pos hk', run_setIt _ hb, Sem.run_pure]
  simp [runeAt, runeLen, goInt]
 ·refine hs1.modify rfl rfl rfl (Nat.le_refl _) ?_ fun x hx => ?_
  ·show (w.heap.setIfInBounds b _)[b]? = _
   simp [hlt]
  ·show (w.heap.setIfInBounds b _)[x]? = _
   rw [Array.getElem?_setIfInBounds_ne (fun h => hx h.symm)]
theorem At.nextF {x : Operand} {b k : Nat} (hg : grd os env g = some true) (hx : ev env x = some (.pointer (some ⟨b, 0, none⟩))) (f : Frt l (pt b (.stringIter ⟨xs.toArray⟩ k)) l') (hk : ¬ k < xs.length) (hd : Nat.blt d n = true)
 (h : At n ds R ((d, .tuple #[.bool false]) :: env) l (wpList P os.toArray Q rest)) :
 At n ds R env l (wpList P os.toArray Q (⟨some d, .next x true, ty, pos, af, g⟩ :: rest)) := Q88 hg rfl hd fun a w e hs => by
 have hs1 := hs.frt f
 have hb := hs1.pt
 have hk' : ¬ k < (ByteArray.mk xs.toArray).size := by rw [Q173]; exact hk
 refine ⟨_, w, _, ?_, hs, h⟩
 simp only [execOp, Instr.next, e.ev hx, Sem.run_bind, Q283 hb, Result.andThen, if_neg hk', Sem.run_pure]
end
end Go.Bw
namespace Go.Bw
open Go Go.RowKit

def Rep.pair {α β : Type} (T : Rep α) (U : Rep β) : Rep (α × β) := ⟨T.sz + U.sz, fun H p cs => ∃ c1 c2, cs = c1 ++ c2 ∧ T.K H p.1 c1 ∧ U.K H p.2 c2,
 fun ⟨c1, c2, h, h1, h2⟩ => by rw [h, List.length_append, T.len h1, U.len h2], fun s ⟨c1, c2, h, h1, h2⟩ => ⟨c1, c2, h, T.mono s h1, U.mono s h2⟩, Nat.add_pos_left T.pos _⟩
def Rep.iso {α β : Type} (T : Rep β) (f : α → β) : Rep α := ⟨T.sz, fun H x cs => T.K H (f x) cs, T.len, T.mono, T.pos⟩
section
variable {P : Program} [Tys P] {os : List Oper} {Q : Exit → Act → World → Prop} {rest : List Oper} {n : Nat} {ds : List Deferred} {R : Res} {env : List (Nat × Value)} {l l' : List HProp}
variable {d ty : Nat} {pos : String} {af : Array Edge} {g : Option (Nat × Bool)} {α β : Type} [Inhabited α] {T : Rep α} {F : Fl β} {e t : Nat} {A : Option Addr} {c m : Nat} {xs : List α} {K : Act → World → Prop}
theorem RdS.whole {H0 : PHeap} (hr : RdS T H0 A xs) (sb : Sub H0 R.heap) (hm : xs.length = m) {i : Int} (h0 : 0 ≤ i) (h1 : i < (m : Int)) : ∃ cs, T.K H0 (gt xs i) cs ∧
 ∀ {x : Operand} {ii : TI} {dd : Option Nat} {env : List (Nat × Value)} {l : List HProp} (hi : ti P t = some ii) (hx : ev env x = some (elp A (i.toNat * T.sz))) (hs1 : ii.size = T.sz) (hag : agg ii.k = true),
  Y P n ds R env l ⟨dd, .load t x, ty, pos, af, g⟩ (.agg cs.toArray) := by
 subst hm
 obtain ⟨ad, cs, rfl, hk, hc⟩ := hr.at_ h0 h1
 refine ⟨cs, hk, fun {x ii dd env l} hi hx hs1 hag a w e0 hs => ?_⟩
 have := Q170 (P := P) (w := w) (a := ad.add (i.toNat * T.sz)) (cs := cs) (v := .agg cs.toArray) hi (by rw [hs1]; exact T.len hk) (fun j u hu => hc.cell (sb.trans (Q194 hs)) hu) (by
  unfold partOf
  rw [hi]
  simp only [hag, List.drop_zero]
  rw [List.take_of_length_le (by rw [hs1, T.len hk]; exact Nat.le_refl _)])
 simp only [execOp, e0.ev hx, elp, Instr.loadAt, Instr.sureAddr, Sem.run_bind, Sem.run_pure, Result.andThen, this]
end
structure Ow (α : Type) where
 sz : Nat
 own : α → List Value → HProp
 len : ∀ {x cs h}, own x cs h → cs.length = sz
 one : ∀ {x cs h}, own x cs h → ∀ u ∈ cs, u.oneCell' = true
 pos : 0 < sz
 rep : Rep α
 rsz : rep.sz = sz
 rd : ∀ {x cs h H}, own x cs h → Sub h H → rep.K H x cs
def Ow.fl {α : Type} (F : Fl α) : Ow α := ⟨F.sz, fun x cs _ => cs = F.enc x, fun h => by rw [h]; exact F.len _, fun h u hu => by rw [h] at hu; exact F.one _ u hu, F.pos, F.rep, rfl, fun h _ => h⟩
def Ow.sl {α : Type} (F : Fl α) (e : Nat) : Ow (List α) := ⟨1, fun xs cs h => ∃ A c, cs = [.slice A xs.length c] ∧ row F e A xs.length c xs h, fun ⟨_, _, h, _⟩ => by rw [h]; rfl, fun ⟨_, _, h, _⟩ u hu => by rw [h] at hu; simp at hu; subst hu; rfl, by decide, F.rep.slice, rfl,
 fun ⟨A, c, h, r⟩ s => ⟨A, c, h, Q167 r, Q176 r s⟩⟩
def Ow.pair {α β : Type} (T : Ow α) (U : Ow β) : Ow (α × β) := ⟨T.sz + U.sz, fun p cs h => ∃ c1 c2, cs = c1 ++ c2 ∧ stars [T.own p.1 c1, U.own p.2 c2] h,
 fun ⟨c1, c2, e, h1, _, a, ⟨h3, _, b, _⟩, _⟩ => by rw [e, List.length_append, T.len a, U.len b],
 fun ⟨c1, c2, e, h1, _, a, ⟨h3, _, b, _⟩, _⟩ u hu => by rw [e] at hu; exact (List.mem_append.1 hu).elim (T.one a u) (U.one b u), Nat.add_pos_left T.pos _, T.rep.pair U.rep, by show T.rep.sz + U.rep.sz = _; rw [T.rsz, U.rsz],
 fun ⟨c1, c2, e, h1, h2, a, ⟨h3, _, b, _, _, s3, _⟩, _, s1, s2⟩ s => ⟨c1, c2, e, T.rd a (s1.trans s), U.rd b (s3.trans (s2.trans s))⟩⟩
def Ow.iso {α β : Type} (T : Ow β) (f : α → β) : Ow α := ⟨T.sz, fun x cs h => T.own (f x) cs h, T.len, T.one, T.pos, T.rep.iso f, T.rsz, T.rd⟩
def Ent (L : List HProp) (c : HProp) : Prop := ∀ h, stars L h → c h
theorem Ent.fl {α : Type} (F : Fl α) {x : α} {cs : List Value} (h : cs = F.enc x) : Ent [] ((Ow.fl F).own x cs) := fun _ _ => h
theorem row_up {α : Type} {F : Fl α} {e : Nat} {A : Option Addr} {n c : Nat} {xs : List α} {h h' : PHeap} (o : row F e A n c xs h) (s : Sub h h') : row F e A n c xs h' := by
 obtain ⟨a, b⟩ := o
 refine ⟨a, b.imp id ?_⟩
 rintro ⟨g, cur, h1, h2, h3⟩
 exact ⟨g, cur, h1, s _ _ h2, h3⟩
theorem Ent.sl {α : Type} (F : Fl α) {e : Nat} {A : Option Addr} {n c : Nat} {xs : List α} : Ent [row F e A n c xs] ((Ow.sl F e).own xs [.slice A n c]) := fun h ⟨h1, _, a, _, _, s, _⟩ => by
 have hn := Q97 a
 subst hn
 exact ⟨A, c, rfl, row_up a s⟩
theorem Ent.pair {α β : Type} {T : Ow α} {U : Ow β} {x : α} {y : β} {c1 c2 : List Value} {L1 L2 : List HProp} (a : Ent L1 (T.own x c1)) (b : Ent L2 (U.own y c2)) : Ent (L1 ++ L2) ((T.pair U).own (x, y) (c1 ++ c2)) := fun h s => by
 obtain ⟨h1, h2, s1, s2, d, t1, t2⟩ := Q104.1 s
 exact ⟨c1, c2, rfl, h1, h2, a _ s1, ⟨h2, fun _ => none, b _ s2, trivial, (fun _ _ _ _ e => by cases e), Sub.refl _, (fun _ _ e => by cases e)⟩, d, t1, t2⟩
end Go.Bw
namespace Go.Bw
open Go Go.RowKit Go.ChangeShapes Go.WideShapes Go.Deep

section
variable {P : Program} {α β γ δ : Type}
theorem cut2 {cs : List Value} {a b : Nat} (h : cs.length = a + b) : cs = cs.take a ++ (cs.drop a).take b := by
 rw [List.take_of_length_le (l := cs.drop a) (by simp; omega), List.take_append_drop]
end
end Go.Bw
namespace Go.Bw
open Go Go.RowKit Go.ChangeShapes Go.WideShapes Go.Deep

def OpensZ {α : Type} (P : Program) (T : Rep α) (t : Nat) (S Z : α → Prop) : Prop := P.cellsOf t = T.sz ∧ ∀ {H : Type} {enc : TypeId × Value → H} {W : World} {base : Nat} {held : Bool} (fuel : Nat) (cs : List Value) (x : DataW H × List MemPlace),
 DataW.trod enc P W base (fun _ => true) held fuel t cs = some x → ∃ a, T.K (wh W) a cs ∧ S a ∧ ((∀ w ∈ DataW.weights P t x.1, w ≤ reachBytes) → Z a)
section
variable {P : Program} {α β γ δ : Type}
theorem OpensZ.int {t : Nat} {k : IntKind} (ht : P.underlying t = some (.int k)) (hc : P.cellsOf t = 1) : OpensZ P (Fl.int k).rep t (fun a => (Lit.int k a).wf = true) (fun _ => True) := ⟨hc, fun fuel cs x h => by
 obtain ⟨n, rfl, _, hw⟩ := DataW.trod_int ht h
 exact ⟨n, rfl, hw, fun _ => trivial⟩⟩
theorem OpensZ.str {t : Nat} (ht : P.underlying t = some .string) (hc : P.cellsOf t = 1) : OpensZ P Fl.bs.rep t (fun a => a.length ≤ maxLen) (fun _ => True) := ⟨hc, fun fuel cs x h => by
 obtain ⟨s, rfl, _, hw⟩ := DataW.trod_string ht h
 obtain ⟨⟨l⟩⟩ := s
 exact ⟨l, rfl, hw, fun _ => trivial⟩⟩
theorem OpensZ.slice {T : Rep α} {S Z : α → Prop} {t e : Nat} (ht : P.underlying t = some (.slice e)) (hc : P.cellsOf t = 1) (o : OpensZ P T e S Z) : OpensZ P T.slice t (fun xs => xs.length ≤ maxLen ∧ ∀ x ∈ xs, S x) (fun xs => xs.length * P.bytesOf e ≤ reachBytes ∧ ∀ x ∈ xs, Z x) := ⟨hc, fun {H enc W base held} fuel cs x h => by
 rcases DataW.trod_slice ht h with ⟨rfl, _⟩ | ⟨a, len, cap, elems, rest, n, _, rfl, hxe, hb, hl, hm, hel, he, _⟩
 ·exact ⟨[], ⟨none, 0, rfl, Nat.le_refl _, RdS.nil _ _ _⟩, ⟨by simp, by simp⟩, fun _ => ⟨by simp, by simp⟩⟩
 ·have each : ∀ i, i < len → ∃ a' cs', T.K (wh W) a' cs' ∧ (S a' ∧ ((∀ y ∈ elems, ∀ w ∈ DataW.weights P e y.1, w ≤ reachBytes) → Z a')) ∧ RdA (wh W) (a.add (i * T.sz)) cs' := fun i hi => by
   have h1 := he i hi
   rw [List.getElem?_eq_getElem (by omega)] at h1
   obtain ⟨cs', hcs, htr⟩ := Option.bind_eq_some_iff.1 h1
   obtain ⟨a', hk, hs, hz⟩ := o.2 _ _ _ htr
   obtain ⟨_, h2, h3⟩ := World.cells?_some hcs
   refine ⟨a', cs', hk, ⟨hs, fun hw => hz (hw _ (List.getElem_mem _))⟩, rdA_of fun j u hu => ?_⟩
   have hj : j < P.cellsOf e := by
    have := (List.getElem?_eq_some_iff.1 hu).1
    omega
   rw [← o.1]
   have := h3 j hj
   rw [this]; exact hu
  have hch : ∀ i : Fin len, ∃ a' cs', T.K (wh W) a' cs' ∧ (S a' ∧ ((∀ y ∈ elems, ∀ w ∈ DataW.weights P e y.1, w ≤ reachBytes) → Z a')) ∧ RdA (wh W) (a.add (i.1 * T.sz)) cs' := fun i => each i.1 i.2
  refine ⟨(List.finRange len).map fun i => (hch i).choose, ⟨some a, cap, by simp, by simpa using hl, fun i y hy => ?_⟩, ⟨by simp; omega, fun y hy => ?_⟩, fun hw => ⟨?_, fun y hy => ?_⟩⟩
  ·have hi : i < len := by simpa using (List.getElem?_eq_some_iff.1 hy).1
   rw [List.getElem?_map, List.getElem?_eq_getElem (by simpa using hi)] at hy
   have hy' : (hch ⟨i, hi⟩).choose = y := by simpa using hy
   obtain ⟨cs', k1, k2, k3⟩ := (hch ⟨i, hi⟩).choose_spec
   exact ⟨a, cs', rfl, hy' ▸ k1, k3⟩
  ·obtain ⟨i, _, rfl⟩ := List.mem_map.1 hy
   obtain ⟨cs', k1, k2, k3⟩ := (hch i).choose_spec
   exact k2.1
  ·have := hw (((elems.map (·.1)).length + (rest.map (·.1)).length) * P.bytesOf e) (by rw [hxe]; simp [DataW.weights, ht])
   simp only [List.length_map, List.length_finRange] at this ⊢
   exact Nat.le_trans (Nat.mul_le_mul_right _ (by omega)) this
  ·obtain ⟨i, _, rfl⟩ := List.mem_map.1 hy
   obtain ⟨cs', k1, k2, k3⟩ := (hch i).choose_spec
   exact k2.2 fun y hy w hwy => hw w (by
    have := all_sub (P := P) (e := e) (es := elems.map (·.1)) (List.mem_map_of_mem hy) w hwy
    rw [hxe]
    simp only [DataW.weights, ht, List.mem_append, List.mem_cons]
    first | exact .inr (.inl this) | exact .inr this | (simp [this]))⟩
theorem OpensZ.st2 {T : Rep α} {U : Rep β} {S Z : α → Prop} {S' Z' : β → Prop} {t : Nat} {f0 f1 : Field} (ht : P.underlying t = some (.struct #[f0, f1])) (o0 : OpensZ P T f0.type S Z) (o1 : OpensZ P U f1.type S' Z') (h0 : f0.offset = 0) (h1 : f1.offset = T.sz) (hc : P.cellsOf t = T.sz + U.sz) :
 OpensZ P (T.pair U) t (fun p => S p.1 ∧ S' p.2) (fun p => Z p.1 ∧ Z' p.2) := ⟨hc, fun fuel cs x h => by
 obtain ⟨y0, y1, n, hx, hl, g0, g1⟩ := trod_struct2 ht h
 obtain ⟨a, ka, sa, za⟩ := o0.2 _ _ _ g0
 obtain ⟨b, kb, sb, zb⟩ := o1.2 _ _ _ g1
 rw [h0, o0.1, List.drop_zero] at ka
 rw [h1, o1.1] at kb
 exact ⟨(a, b), ⟨_, _, cut2 (by rw [hl, hc]), ka, kb⟩, ⟨sa, sb⟩, fun hw => ⟨za fun w hq => (hw w (by rw [(Prod.mk.inj hx).1]; simp [DataW.weights, DataW.weightsEach, ht, hq])), zb fun w hq => (hw w (by rw [(Prod.mk.inj hx).1]; simp [DataW.weights, DataW.weightsEach, ht, hq]))⟩⟩⟩
theorem OpensZ.st3 {T : Rep α} {U : Rep β} {V : Rep γ} {S Z : α → Prop} {S' Z' : β → Prop} {S'' Z'' : γ → Prop} {t : Nat} {f0 f1 f2 : Field} (ht : P.underlying t = some (.struct #[f0, f1, f2])) (o0 : OpensZ P T f0.type S Z) (o1 : OpensZ P U f1.type S' Z') (o2 : OpensZ P V f2.type S'' Z'') (h0 : f0.offset = 0) (h1 : f1.offset = T.sz) (h2 : f2.offset = T.sz + U.sz)
 (hc : P.cellsOf t = T.sz + (U.sz + V.sz)) : OpensZ P (T.pair (U.pair V)) t (fun p => S p.1 ∧ S' p.2.1 ∧ S'' p.2.2) (fun p => Z p.1 ∧ Z' p.2.1 ∧ Z'' p.2.2) := ⟨hc, fun fuel cs x h => by
 obtain ⟨y0, y1, y2, n, hx, hl, g0, g1, g2⟩ := trod_struct3 ht h
 obtain ⟨a, ka, sa, za⟩ := o0.2 _ _ _ g0
 obtain ⟨b, kb, sb, zb⟩ := o1.2 _ _ _ g1
 obtain ⟨c, kc, sc, zc⟩ := o2.2 _ _ _ g2
 rw [h0, o0.1, List.drop_zero] at ka
 rw [h1, o1.1] at kb
 rw [h2, o2.1, ← List.drop_drop] at kc
 have e1 : cs = cs.take T.sz ++ cs.drop T.sz := (List.take_append_drop _ _).symm
 have e2 := cut2 (cs := cs.drop T.sz) (a := U.sz) (b := V.sz) (by simp; omega)
 exact ⟨(a, b, c), ⟨_, _, e1, ka, _, _, e2, kb, kc⟩, ⟨sa, sb, sc⟩, fun hw => ⟨za fun w hq => (hw w (by rw [(Prod.mk.inj hx).1]; simp [DataW.weights, DataW.weightsEach, ht, hq])), zb fun w hq => (hw w (by rw [(Prod.mk.inj hx).1]; simp [DataW.weights, DataW.weightsEach, ht, hq])), zc fun w hq => (hw w (by rw [(Prod.mk.inj hx).1]; simp [DataW.weights, DataW.weightsEach, ht, hq]))⟩⟩⟩
theorem OpensZ.st4 {T : Rep α} {U : Rep β} {V : Rep γ} {X : Rep δ} {S Z : α → Prop} {S' Z' : β → Prop} {S'' Z'' : γ → Prop} {S3 Z3 : δ → Prop} {t : Nat} {f0 f1 f2 f3 : Field} (ht : P.underlying t = some (.struct #[f0, f1, f2, f3])) (o0 : OpensZ P T f0.type S Z) (o1 : OpensZ P U f1.type S' Z') (o2 : OpensZ P V f2.type S'' Z'') (o3 : OpensZ P X f3.type S3 Z3)
 (h0 : f0.offset = 0) (h1 : f1.offset = T.sz) (h2 : f2.offset = T.sz + U.sz) (h3 : f3.offset = T.sz + (U.sz + V.sz)) (hc : P.cellsOf t = T.sz + (U.sz + (V.sz + X.sz))) :
 OpensZ P (T.pair (U.pair (V.pair X))) t (fun p => S p.1 ∧ S' p.2.1 ∧ S'' p.2.2.1 ∧ S3 p.2.2.2) (fun p => Z p.1 ∧ Z' p.2.1 ∧ Z'' p.2.2.1 ∧ Z3 p.2.2.2) := ⟨hc, fun fuel cs x h => by
 obtain ⟨y0, y1, y2, y3, n, hx, hl, g0, g1, g2, g3⟩ := Go.Joins.trod_struct4 ht h
 obtain ⟨a, ka, sa, za⟩ := o0.2 _ _ _ g0
 obtain ⟨b, kb, sb, zb⟩ := o1.2 _ _ _ g1
 obtain ⟨c, kc, sc, zc⟩ := o2.2 _ _ _ g2
 obtain ⟨d, kd, sd, zd⟩ := o3.2 _ _ _ g3
 rw [h0, o0.1, List.drop_zero] at ka
 rw [h1, o1.1] at kb
 rw [h2, o2.1, ← List.drop_drop] at kc
 rw [h3, o3.1, ← List.drop_drop, ← List.drop_drop] at kd
 have e1 : cs = cs.take T.sz ++ cs.drop T.sz := (List.take_append_drop _ _).symm
 have e2 : cs.drop T.sz = (cs.drop T.sz).take U.sz ++ (cs.drop T.sz).drop U.sz := (List.take_append_drop _ _).symm
 have e3 := cut2 (cs := (cs.drop T.sz).drop U.sz) (a := V.sz) (b := X.sz) (by simp; omega)
 exact ⟨(a, b, c, d), ⟨_, _, e1, ka, _, _, e2, kb, _, _, e3, kc, kd⟩, ⟨sa, sb, sc, sd⟩, fun hw => ⟨za fun w hq => (hw w (by rw [(Prod.mk.inj hx).1]; simp [DataW.weights, DataW.weightsEach, ht, hq])), zb fun w hq => (hw w (by rw [(Prod.mk.inj hx).1]; simp [DataW.weights, DataW.weightsEach, ht, hq])), zc fun w hq => (hw w (by rw [(Prod.mk.inj hx).1]; simp [DataW.weights, DataW.weightsEach, ht, hq])), zd fun w hq => (hw w (by rw [(Prod.mk.inj hx).1]; simp [DataW.weights, DataW.weightsEach, ht, hq]))⟩⟩⟩
theorem OpensZ.mk {T : Rep α} {U : Rep β} {S Z : α → Prop} {t : Nat} (o : OpensZ P T t S Z) (f : α → β) (hsz : T.sz = U.sz) (hk : ∀ {H : PHeap} {a cs}, T.K H a cs → U.K H (f a) cs) {S' Z' : β → Prop} (hs : ∀ a, S a → S' (f a)) (hz : ∀ a, Z a → Z' (f a)) : OpensZ P U t S' Z' :=
 ⟨o.1.trans hsz, fun fuel cs x h => let ⟨a, k, s, z⟩ := o.2 fuel cs x h; ⟨f a, hk k, hs a s, fun hw => hz a (z hw)⟩⟩
theorem OpensZ.get {T : Rep α} {S Z : α → Prop} {t : Nat} (o : OpensZ P T t S Z) {H : Type} {enc : TypeId × Value → H} {W : World} {base : Nat} {held : Bool} {v : Value} {d : DataW H} {ps : List MemPlace} (h : DataW.Trod enc P W base (fun _ => true) held t v d ps) : ∃ a, T.K (wh W) a v.cells.toList ∧ S a ∧ ((∀ w ∈ DataW.weights P t d, w ≤ reachBytes) → Z a) :=
 let ⟨fuel, hf⟩ := h
 o.2 fuel _ _ hf
theorem Q251 {H : Type} {ts : List TypeId} {ds : List (DataW H)} {j : Nat} {t : TypeId} {d : DataW H} (hsz : (DataW.weightsEach P ts ds).all (· ≤ reachBytes) = true) (ht : ts[j]? = some t) (hd : ds[j]? = some d) : ∀ w ∈ DataW.weights P t d, w ≤ reachBytes := fun w hw => by
 have := List.all_eq_true.1 hsz _ (DataW.weights_mem_each ht hd w hw)
 simpa using this
end
end Go.Bw
namespace Go.Bw
open Go
set_option maxRecDepth 100000
def Tryz.ti3 : TI := ⟨.int .i64, 1, 8, [.int .i64 0]⟩
def Tryz.ti4 : TI := ⟨.bool, 1, 1, [.bool false]⟩
def Tryz.ti5 : TI := ⟨.int .u8, 1, 1, [.int .u8 0]⟩
def Tryz.ti9 : TI := ⟨.string, 1, 16, [.string ⟨#[]⟩]⟩
def Tryz.ti20 : TI := ⟨.iface, 1, 16, [.nilIface]⟩
def Tryz.ti21 : TI := ⟨.int .i32, 1, 4, [.int .i32 0]⟩
def Tryz.ti22 : TI := ⟨.slice 9, 1, 24, [.slice none 0 0]⟩
def Tryz.ti23 : TI := ⟨.slice 48, 1, 24, [.slice none 0 0]⟩
def Tryz.ti24 : TI := ⟨.slice 41, 1, 24, [.slice none 0 0]⟩
def Tryz.ti26 : TI := ⟨.struct [(3, 0), (22, 1), (23, 2), (24, 3)], 4, 80, [.int .i64 0, .slice none 0 0, .slice none 0 0, .slice none 0 0]⟩
def Tryz.ti27 : TI := ⟨.slice 33, 1, 24, [.slice none 0 0]⟩
def Tryz.ti28 : TI := ⟨.int .u64, 1, 8, [.int .u64 0]⟩
def Tryz.ti30 : TI := ⟨.pointer 82, 1, 8, [.pointer none]⟩
def Tryz.ti33 : TI := ⟨.struct [(3, 0), (3, 1), (3, 2), (9, 3), (3, 4)], 5, 48, [.int .i64 0, .int .i64 0, .int .i64 0, .string ⟨#[]⟩, .int .i64 0]⟩
def Tryz.ti35 : TI := ⟨.array 4 28, 4, 32, [.int .u64 0, .int .u64 0, .int .u64 0, .int .u64 0]⟩
def Tryz.ti36 : TI := ⟨.int .i64, 1, 8, [.int .i64 0]⟩
def Tryz.ti39 : TI := ⟨.slice 3, 1, 24, [.slice none 0 0]⟩
def Tryz.ti41 : TI := ⟨.struct [(9, 0), (39, 1)], 2, 40, [.string ⟨#[]⟩, .slice none 0 0]⟩
def Tryz.ti48 : TI := ⟨.struct [(3, 0), (3, 1), (3, 2)], 3, 24, [.int .i64 0, .int .i64 0, .int .i64 0]⟩
def Tryz.ti50 : TI := ⟨.func, 1, 8, [.nilFunc]⟩
def Tryz.ti54 : TI := ⟨.slice 39, 1, 24, [.slice none 0 0]⟩
def Tryz.ti56 : TI := ⟨.struct [(39, 0), (39, 1), (54, 2)], 3, 72, [.slice none 0 0, .slice none 0 0, .slice none 0 0]⟩
def Tryz.ti57 : TI := ⟨.slice 65, 1, 24, [.slice none 0 0]⟩
def Tryz.ti59 : TI := ⟨.struct [(56, 0), (57, 3)], 4, 96, [.slice none 0 0, .slice none 0 0, .slice none 0 0, .slice none 0 0]⟩
def Tryz.ti65 : TI := ⟨.struct [(3, 0), (3, 1)], 2, 16, [.int .i64 0, .int .i64 0]⟩
def Tryz.ti67 : TI := ⟨.slice 28, 1, 24, [.slice none 0 0]⟩
def Tryz.ti69 : TI := ⟨.int .u64, 1, 8, [.int .u64 0]⟩
def Tryz.ti70 : TI := ⟨.func, 1, 8, [.nilFunc]⟩
def Tryz.ti74 : TI := ⟨.iface, 1, 16, [.nilIface]⟩
def Tryz.ti79 : TI := ⟨.map 9 35, 1, 8, [.map none]⟩
def Tryz.ti80 : TI := ⟨.map 85 35, 1, 8, [.map none]⟩
def Tryz.ti82 : TI := ⟨.struct [(3, 0), (79, 1), (80, 2)], 3, 24, [.int .i64 0, .map none, .map none]⟩
def Tryz.ti85 : TI := ⟨.struct [(3, 0), (9, 1)], 2, 24, [.int .i64 0, .string ⟨#[]⟩]⟩
def Tryz.ti86 : TI := ⟨.pointer 145, 1, 8, [.pointer none]⟩
def Tryz.ti94 : TI := ⟨.struct [(3, 0), (3, 1), (57, 2)], 3, 40, [.int .i64 0, .int .i64 0, .slice none 0 0]⟩
def Tryz.ti98 : TI := ⟨.pointer 101, 1, 8, [.pointer none]⟩
def Tryz.ti99 : TI := ⟨.map 65 3, 1, 8, [.map none]⟩
def Tryz.ti101 : TI := ⟨.struct [(30, 0), (27, 1), (67, 2), (39, 3), (99, 4), (57, 5), (56, 6)], 9, 184, [.pointer none, .slice none 0 0, .slice none 0 0, .slice none 0 0, .map none, .slice none 0 0, .slice none 0 0, .slice none 0 0, .slice none 0 0]⟩
def Tryz.ti105 : TI := ⟨.slice 115, 1, 24, [.slice none 0 0]⟩
def Tryz.ti108 : TI := ⟨.pointer 113, 1, 8, [.pointer none]⟩
def Tryz.ti109 : TI := ⟨.map 9 4, 1, 8, [.map none]⟩
def Tryz.ti110 : TI := ⟨.pointer 121, 1, 8, [.pointer none]⟩
def Tryz.ti111 : TI := ⟨.slice 169, 1, 24, [.slice none 0 0]⟩
def Tryz.ti113 : TI := ⟨.struct [(105, 0), (110, 1), (26, 2), (111, 6), (109, 7)], 8, 144, [.slice none 0 0, .pointer none, .int .i64 0, .slice none 0 0, .slice none 0 0, .slice none 0 0, .slice none 0 0, .map none]⟩
def Tryz.ti115 : TI := ⟨.struct [(3, 0), (3, 1), (9, 2), (3, 3)], 4, 40, [.int .i64 0, .int .i64 0, .string ⟨#[]⟩, .int .i64 0]⟩
def Tryz.ti121 : TI := ⟨.struct [(3, 0), (36, 1)], 2, 16, [.int .i64 0, .int .i64 0]⟩
def Tryz.ti123 : TI := ⟨.struct [(121, 0)], 2, 16, [.int .i64 0, .int .i64 0]⟩
def Tryz.ti124 : TI := ⟨.pointer 128, 1, 8, [.pointer none]⟩
def Tryz.ti126 : TI := ⟨.func, 1, 8, [.nilFunc]⟩
def Tryz.ti128 : TI := ⟨.struct [(105, 0), (3, 1), (27, 2)], 3, 56, [.slice none 0 0, .int .i64 0, .slice none 0 0]⟩
def Tryz.ti129 : TI := ⟨.func, 1, 8, [.nilFunc]⟩
def Tryz.ti131 : TI := ⟨.func, 1, 8, [.nilFunc]⟩
def Tryz.ti135 : TI := ⟨.func, 1, 8, [.nilFunc]⟩
def Tryz.ti137 : TI := ⟨.func, 1, 8, [.nilFunc]⟩
def Tryz.ti139 : TI := ⟨.func, 1, 8, [.nilFunc]⟩
def Tryz.ti143 : TI := ⟨.slice 35, 1, 24, [.slice none 0 0]⟩
def Tryz.ti145 : TI := ⟨.struct [(30, 0), (27, 1), (39, 2), (35, 3), (143, 7)], 8, 112, [.pointer none, .slice none 0 0, .slice none 0 0, .int .u64 0, .int .u64 0, .int .u64 0, .int .u64 0, .slice none 0 0]⟩
def Tryz.ti148 : TI := ⟨.array 64 5, 64, 64, [.int .u8 0, .int .u8 0, .int .u8 0, .int .u8 0, .int .u8 0, .int .u8 0, .int .u8 0, .int .u8 0, .int .u8 0, .int .u8 0, .int .u8 0, .int .u8 0, .int .u8 0, .int .u8 0, .int .u8 0, .int .u8 0, .int .u8 0, .int .u8 0, .int .u8 0, .int .u8 0, .int .u8 0, .int .u8 0, .int .u8 0, .int .u8 0, .int .u8 0, .int .u8 0, .int .u8 0, .int .u8 0, .int .u8 0, .int .u8 0, .int .u8 0, .int .u8 0, .int .u8 0, .int .u8 0, .int .u8 0, .int .u8 0, .int .u8 0, .int .u8 0, .int .u8 0, .int .u8 0, .int .u8 0, .int .u8 0, .int .u8 0, .int .u8 0, .int .u8 0, .int .u8 0, .int .u8 0, .int .u8 0, .int .u8 0, .int .u8 0, .int .u8 0, .int .u8 0, .int .u8 0, .int .u8 0, .int .u8 0, .int .u8 0, .int .u8 0, .int .u8 0, .int .u8 0, .int .u8 0, .int .u8 0, .int .u8 0, .int .u8 0, .int .u8 0]⟩
def Tryz.ti149 : TI := ⟨.slice 4, 1, 24, [.slice none 0 0]⟩
def Tryz.ti151 : TI := ⟨.func, 1, 8, [.nilFunc]⟩
def Tryz.ti169 : TI := ⟨.struct [(3, 0), (9, 1), (3, 2)], 3, 32, [.int .i64 0, .string ⟨#[]⟩, .int .i64 0]⟩
def Tryz.ti172 : TI := ⟨.func, 1, 8, [.nilFunc]⟩
def Tryz.ti182 : TI := ⟨.func, 1, 8, [.nilFunc]⟩
def Tryz.ti186 : TI := ⟨.pointer 190, 1, 8, [.pointer none]⟩
def Tryz.ti188 : TI := ⟨.slice 242, 1, 24, [.slice none 0 0]⟩
def Tryz.ti190 : TI := ⟨.struct [(27, 0), (188, 1), (3, 2), (39, 3), (149, 4), (39, 5)], 6, 128, [.slice none 0 0, .slice none 0 0, .int .i64 0, .slice none 0 0, .slice none 0 0, .slice none 0 0]⟩
def Tryz.ti242 : TI := ⟨.struct [(3, 0), (3, 1)], 2, 16, [.int .i64 0, .int .i64 0]⟩
theorem Tryz.tok3 : TypeOk Go.Proofs.Tryz.prog 3 Tryz.ti3 := ⟨by kernel_rfl, by kernel_rfl⟩
theorem Tryz.tok4 : TypeOk Go.Proofs.Tryz.prog 4 Tryz.ti4 := ⟨by kernel_rfl, by kernel_rfl⟩
theorem Tryz.tok5 : TypeOk Go.Proofs.Tryz.prog 5 Tryz.ti5 := ⟨by kernel_rfl, by kernel_rfl⟩
theorem Tryz.tok9 : TypeOk Go.Proofs.Tryz.prog 9 Tryz.ti9 := ⟨by kernel_rfl, by kernel_rfl⟩
theorem Tryz.tok20 : TypeOk Go.Proofs.Tryz.prog 20 Tryz.ti20 := ⟨by kernel_rfl, by kernel_rfl⟩
theorem Tryz.tok21 : TypeOk Go.Proofs.Tryz.prog 21 Tryz.ti21 := ⟨by kernel_rfl, by kernel_rfl⟩
theorem Tryz.tok22 : TypeOk Go.Proofs.Tryz.prog 22 Tryz.ti22 := ⟨by kernel_rfl, by kernel_rfl⟩
theorem Tryz.tok23 : TypeOk Go.Proofs.Tryz.prog 23 Tryz.ti23 := ⟨by kernel_rfl, by kernel_rfl⟩
theorem Tryz.tok24 : TypeOk Go.Proofs.Tryz.prog 24 Tryz.ti24 := ⟨by kernel_rfl, by kernel_rfl⟩
theorem Tryz.tok26 : TypeOk Go.Proofs.Tryz.prog 26 Tryz.ti26 := ⟨by kernel_rfl, by kernel_rfl⟩
theorem Tryz.tok27 : TypeOk Go.Proofs.Tryz.prog 27 Tryz.ti27 := ⟨by kernel_rfl, by kernel_rfl⟩
theorem Tryz.tok28 : TypeOk Go.Proofs.Tryz.prog 28 Tryz.ti28 := ⟨by kernel_rfl, by kernel_rfl⟩
theorem Tryz.tok30 : TypeOk Go.Proofs.Tryz.prog 30 Tryz.ti30 := ⟨by kernel_rfl, by kernel_rfl⟩
theorem Tryz.tok33 : TypeOk Go.Proofs.Tryz.prog 33 Tryz.ti33 := ⟨by kernel_rfl, by kernel_rfl⟩
theorem Tryz.tok35 : TypeOk Go.Proofs.Tryz.prog 35 Tryz.ti35 := ⟨by kernel_rfl, by kernel_rfl⟩
theorem Tryz.tok36 : TypeOk Go.Proofs.Tryz.prog 36 Tryz.ti36 := ⟨by kernel_rfl, by kernel_rfl⟩
theorem Tryz.tok39 : TypeOk Go.Proofs.Tryz.prog 39 Tryz.ti39 := ⟨by kernel_rfl, by kernel_rfl⟩
theorem Tryz.tok41 : TypeOk Go.Proofs.Tryz.prog 41 Tryz.ti41 := ⟨by kernel_rfl, by kernel_rfl⟩
theorem Tryz.tok48 : TypeOk Go.Proofs.Tryz.prog 48 Tryz.ti48 := ⟨by kernel_rfl, by kernel_rfl⟩
theorem Tryz.tok50 : TypeOk Go.Proofs.Tryz.prog 50 Tryz.ti50 := ⟨by kernel_rfl, by kernel_rfl⟩
theorem Tryz.tok54 : TypeOk Go.Proofs.Tryz.prog 54 Tryz.ti54 := ⟨by kernel_rfl, by kernel_rfl⟩
theorem Tryz.tok56 : TypeOk Go.Proofs.Tryz.prog 56 Tryz.ti56 := ⟨by kernel_rfl, by kernel_rfl⟩
theorem Tryz.tok57 : TypeOk Go.Proofs.Tryz.prog 57 Tryz.ti57 := ⟨by kernel_rfl, by kernel_rfl⟩
theorem Tryz.tok59 : TypeOk Go.Proofs.Tryz.prog 59 Tryz.ti59 := ⟨by kernel_rfl, by kernel_rfl⟩
theorem Tryz.tok65 : TypeOk Go.Proofs.Tryz.prog 65 Tryz.ti65 := ⟨by kernel_rfl, by kernel_rfl⟩
theorem Tryz.tok67 : TypeOk Go.Proofs.Tryz.prog 67 Tryz.ti67 := ⟨by kernel_rfl, by kernel_rfl⟩
theorem Tryz.tok69 : TypeOk Go.Proofs.Tryz.prog 69 Tryz.ti69 := ⟨by kernel_rfl, by kernel_rfl⟩
theorem Tryz.tok70 : TypeOk Go.Proofs.Tryz.prog 70 Tryz.ti70 := ⟨by kernel_rfl, by kernel_rfl⟩
theorem Tryz.tok74 : TypeOk Go.Proofs.Tryz.prog 74 Tryz.ti74 := ⟨by kernel_rfl, by kernel_rfl⟩
theorem Tryz.tok79 : TypeOk Go.Proofs.Tryz.prog 79 Tryz.ti79 := ⟨by kernel_rfl, by kernel_rfl⟩
theorem Tryz.tok80 : TypeOk Go.Proofs.Tryz.prog 80 Tryz.ti80 := ⟨by kernel_rfl, by kernel_rfl⟩
theorem Tryz.tok82 : TypeOk Go.Proofs.Tryz.prog 82 Tryz.ti82 := ⟨by kernel_rfl, by kernel_rfl⟩
theorem Tryz.tok85 : TypeOk Go.Proofs.Tryz.prog 85 Tryz.ti85 := ⟨by kernel_rfl, by kernel_rfl⟩
theorem Tryz.tok86 : TypeOk Go.Proofs.Tryz.prog 86 Tryz.ti86 := ⟨by kernel_rfl, by kernel_rfl⟩
theorem Tryz.tok94 : TypeOk Go.Proofs.Tryz.prog 94 Tryz.ti94 := ⟨by kernel_rfl, by kernel_rfl⟩
theorem Tryz.tok98 : TypeOk Go.Proofs.Tryz.prog 98 Tryz.ti98 := ⟨by kernel_rfl, by kernel_rfl⟩
theorem Tryz.tok99 : TypeOk Go.Proofs.Tryz.prog 99 Tryz.ti99 := ⟨by kernel_rfl, by kernel_rfl⟩
theorem Tryz.tok101 : TypeOk Go.Proofs.Tryz.prog 101 Tryz.ti101 := ⟨by kernel_rfl, by kernel_rfl⟩
theorem Tryz.tok105 : TypeOk Go.Proofs.Tryz.prog 105 Tryz.ti105 := ⟨by kernel_rfl, by kernel_rfl⟩
theorem Tryz.tok108 : TypeOk Go.Proofs.Tryz.prog 108 Tryz.ti108 := ⟨by kernel_rfl, by kernel_rfl⟩
theorem Tryz.tok109 : TypeOk Go.Proofs.Tryz.prog 109 Tryz.ti109 := ⟨by kernel_rfl, by kernel_rfl⟩
theorem Tryz.tok110 : TypeOk Go.Proofs.Tryz.prog 110 Tryz.ti110 := ⟨by kernel_rfl, by kernel_rfl⟩
theorem Tryz.tok111 : TypeOk Go.Proofs.Tryz.prog 111 Tryz.ti111 := ⟨by kernel_rfl, by kernel_rfl⟩
theorem Tryz.tok113 : TypeOk Go.Proofs.Tryz.prog 113 Tryz.ti113 := ⟨by kernel_rfl, by kernel_rfl⟩
theorem Tryz.tok115 : TypeOk Go.Proofs.Tryz.prog 115 Tryz.ti115 := ⟨by kernel_rfl, by kernel_rfl⟩
theorem Tryz.tok121 : TypeOk Go.Proofs.Tryz.prog 121 Tryz.ti121 := ⟨by kernel_rfl, by kernel_rfl⟩
theorem Tryz.tok123 : TypeOk Go.Proofs.Tryz.prog 123 Tryz.ti123 := ⟨by kernel_rfl, by kernel_rfl⟩
theorem Tryz.tok124 : TypeOk Go.Proofs.Tryz.prog 124 Tryz.ti124 := ⟨by kernel_rfl, by kernel_rfl⟩
theorem Tryz.tok126 : TypeOk Go.Proofs.Tryz.prog 126 Tryz.ti126 := ⟨by kernel_rfl, by kernel_rfl⟩
theorem Tryz.tok128 : TypeOk Go.Proofs.Tryz.prog 128 Tryz.ti128 := ⟨by kernel_rfl, by kernel_rfl⟩
theorem Tryz.tok129 : TypeOk Go.Proofs.Tryz.prog 129 Tryz.ti129 := ⟨by kernel_rfl, by kernel_rfl⟩
theorem Tryz.tok131 : TypeOk Go.Proofs.Tryz.prog 131 Tryz.ti131 := ⟨by kernel_rfl, by kernel_rfl⟩
theorem Tryz.tok135 : TypeOk Go.Proofs.Tryz.prog 135 Tryz.ti135 := ⟨by kernel_rfl, by kernel_rfl⟩
theorem Tryz.tok137 : TypeOk Go.Proofs.Tryz.prog 137 Tryz.ti137 := ⟨by kernel_rfl, by kernel_rfl⟩
theorem Tryz.tok139 : TypeOk Go.Proofs.Tryz.prog 139 Tryz.ti139 := ⟨by kernel_rfl, by kernel_rfl⟩
theorem Tryz.tok143 : TypeOk Go.Proofs.Tryz.prog 143 Tryz.ti143 := ⟨by kernel_rfl, by kernel_rfl⟩
theorem Tryz.tok145 : TypeOk Go.Proofs.Tryz.prog 145 Tryz.ti145 := ⟨by kernel_rfl, by kernel_rfl⟩
theorem Tryz.tok148 : TypeOk Go.Proofs.Tryz.prog 148 Tryz.ti148 := ⟨by kernel_rfl, by kernel_rfl⟩
theorem Tryz.tok149 : TypeOk Go.Proofs.Tryz.prog 149 Tryz.ti149 := ⟨by kernel_rfl, by kernel_rfl⟩
theorem Tryz.tok151 : TypeOk Go.Proofs.Tryz.prog 151 Tryz.ti151 := ⟨by kernel_rfl, by kernel_rfl⟩
theorem Tryz.tok169 : TypeOk Go.Proofs.Tryz.prog 169 Tryz.ti169 := ⟨by kernel_rfl, by kernel_rfl⟩
theorem Tryz.tok172 : TypeOk Go.Proofs.Tryz.prog 172 Tryz.ti172 := ⟨by kernel_rfl, by kernel_rfl⟩
theorem Tryz.tok182 : TypeOk Go.Proofs.Tryz.prog 182 Tryz.ti182 := ⟨by kernel_rfl, by kernel_rfl⟩
theorem Tryz.tok186 : TypeOk Go.Proofs.Tryz.prog 186 Tryz.ti186 := ⟨by kernel_rfl, by kernel_rfl⟩
theorem Tryz.tok188 : TypeOk Go.Proofs.Tryz.prog 188 Tryz.ti188 := ⟨by kernel_rfl, by kernel_rfl⟩
theorem Tryz.tok190 : TypeOk Go.Proofs.Tryz.prog 190 Tryz.ti190 := ⟨by kernel_rfl, by kernel_rfl⟩
theorem Tryz.tok242 : TypeOk Go.Proofs.Tryz.prog 242 Tryz.ti242 := ⟨by kernel_rfl, by kernel_rfl⟩
instance Tryz.tys : Tys Go.Proofs.Tryz.prog := ⟨[(3, Tryz.ti3), (4, Tryz.ti4), (5, Tryz.ti5), (9, Tryz.ti9), (20, Tryz.ti20), (21, Tryz.ti21), (22, Tryz.ti22), (23, Tryz.ti23), (24, Tryz.ti24), (26, Tryz.ti26), (27, Tryz.ti27), (28, Tryz.ti28), (30, Tryz.ti30), (33, Tryz.ti33), (35, Tryz.ti35), (36, Tryz.ti36), (39, Tryz.ti39), (41, Tryz.ti41), (48, Tryz.ti48), (50, Tryz.ti50), (54, Tryz.ti54), (56, Tryz.ti56), (57, Tryz.ti57), (59, Tryz.ti59), (65, Tryz.ti65), (67, Tryz.ti67), (69, Tryz.ti69), (70, Tryz.ti70), (74, Tryz.ti74), (79, Tryz.ti79), (80, Tryz.ti80), (82, Tryz.ti82), (85, Tryz.ti85), (86, Tryz.ti86), (94, Tryz.ti94), (98, Tryz.ti98), (99, Tryz.ti99), (101, Tryz.ti101), (105, Tryz.ti105), (108, Tryz.ti108), (109, Tryz.ti109), (110, Tryz.ti110), (111, Tryz.ti111), (113, Tryz.ti113), (115, Tryz.ti115), (121, Tryz.ti121), (123, Tryz.ti123), (124, Tryz.ti124), (126, Tryz.ti126), (128, Tryz.ti128), (129, Tryz.ti129), (131, Tryz.ti131), (135, Tryz.ti135), (137, Tryz.ti137), (139, Tryz.ti139), (143, Tryz.ti143), (145, Tryz.ti145), (148, Tryz.ti148), (149, Tryz.ti149), (151, Tryz.ti151), (169, Tryz.ti169), (172, Tryz.ti172), (182, Tryz.ti182), (186, Tryz.ti186), (188, Tryz.ti188), (190, Tryz.ti190), (242, Tryz.ti242)], ⟨Tryz.tok3, Tryz.tok4, Tryz.tok5, Tryz.tok9, Tryz.tok20, Tryz.tok21, Tryz.tok22, Tryz.tok23, Tryz.tok24, Tryz.tok26, Tryz.tok27, Tryz.tok28, Tryz.tok30, Tryz.tok33, Tryz.tok35, Tryz.tok36, Tryz.tok39, Tryz.tok41, Tryz.tok48, Tryz.tok50, Tryz.tok54, Tryz.tok56, Tryz.tok57, Tryz.tok59, Tryz.tok65, Tryz.tok67, Tryz.tok69, Tryz.tok70, Tryz.tok74, Tryz.tok79, Tryz.tok80, Tryz.tok82, Tryz.tok85, Tryz.tok86, Tryz.tok94, Tryz.tok98, Tryz.tok99, Tryz.tok101, Tryz.tok105, Tryz.tok108, Tryz.tok109, Tryz.tok110, Tryz.tok111, Tryz.tok113, Tryz.tok115, Tryz.tok121, Tryz.tok123, Tryz.tok124, Tryz.tok126, Tryz.tok128, Tryz.tok129, Tryz.tok131, Tryz.tok135, Tryz.tok137, Tryz.tok139, Tryz.tok143, Tryz.tok145, Tryz.tok148, Tryz.tok149, Tryz.tok151, Tryz.tok169, Tryz.tok172, Tryz.tok182, Tryz.tok186, Tryz.tok188, Tryz.tok190, Tryz.tok242, trivial⟩⟩
instance Tryz.mixed : Mixed Go.Proofs.Tryz.prog := ⟨by kernel_rfl⟩
def Tryz.gtab0 : List Int := [0, 1, 56, 2, 57, 49, 28, 3, 61, 58, 42, 50, 38, 29, 17, 4, 62, 47, 59, 36, 45, 43, 51, 22, 53, 39, 33, 30, 24, 18, 12, 5, 63, 55, 48, 27, 60, 41, 37, 16, 46, 35, 44, 21, 52, 32, 23, 11, 54, 26, 40, 15, 34, 20, 31, 10, 25, 14, 19, 9, 13, 8, 7, 6]
end Go.Bw
namespace Go.Proofs
open Go.Shelf
def Tryz.sort118_ren : Go.Shelf.Ren := ⟨fun | 53 => 118 | 64 => 151 | 63 => 150 | 78 => 178 | 79 => 179 | 70 => 169 | 71 => 170 | 72 => 171 | 73 => 172 | 74 => 173 | 75 => 174 | 59 => 175 | 76 => 176 | 77 => 177 | 88 => 214 | 89 => 215 | 90 => 216 | 91 => 217 | 92 => 218 | 68 => 128 | 96 => 231 | n => n, fun | 22 => 39 | 23 => 3 | 3 => 3 | 51 => 69 | 0 => 0 | 67 => 221 | 69 => 28 | 4 => 4 | 61 => 215 | 60 => 214 | 44 => 156 | 5 => 5 | 9 => 9 | 75 => 245 | 79 => 249 | 83 => 258 | 84 => 191 | n => n, fun | n => n⟩
theorem Tryz.sort118 : Go.Proofs.SlLaysN.n53 Tryz.prog Tryz.sort118_ren := {
  mixed := by kernel_rfl
  f53 := ⟨Tryz.f118.name, by decide, Tryz.func118.trans (congrArg some (by kernel_rfl))⟩
  f59 := ⟨Tryz.f175.name, by decide, Tryz.func175.trans (congrArg some (by kernel_rfl))⟩
  f63 := ⟨Tryz.f150.name, by decide, Tryz.func150.trans (congrArg some (by kernel_rfl))⟩
  f64 := Tryz.func151.trans (congrArg some (by kernel_rfl))
  f68 := ⟨Tryz.f128.name, by decide, Tryz.func128.trans (congrArg some (by kernel_rfl))⟩
  f70 := ⟨Tryz.f169.name, by decide, Tryz.func169.trans (congrArg some (by kernel_rfl))⟩
  f71 := ⟨Tryz.f170.name, by decide, Tryz.func170.trans (congrArg some (by kernel_rfl))⟩
  f72 := ⟨Tryz.f171.name, by decide, Tryz.func171.trans (congrArg some (by kernel_rfl))⟩
  f73 := ⟨Tryz.f172.name, by decide, Tryz.func172.trans (congrArg some (by kernel_rfl))⟩
  f74 := ⟨Tryz.f173.name, by decide, Tryz.func173.trans (congrArg some (by kernel_rfl))⟩
  f75 := ⟨Tryz.f174.name, by decide, Tryz.func174.trans (congrArg some (by kernel_rfl))⟩
  f76 := ⟨Tryz.f176.name, by decide, Tryz.func176.trans (congrArg some (by kernel_rfl))⟩
  f77 := ⟨Tryz.f177.name, by decide, Tryz.func177.trans (congrArg some (by kernel_rfl))⟩
  f78 := Tryz.func178.trans (congrArg some (by kernel_rfl))
  f79 := Tryz.func179.trans (congrArg some (by kernel_rfl))
  f88 := ⟨Tryz.f214.name, by decide, Tryz.func214.trans (congrArg some (by kernel_rfl))⟩
  f89 := Tryz.func215.trans (congrArg some (by kernel_rfl))
  f90 := Tryz.func216.trans (congrArg some (by kernel_rfl))
  f91 := ⟨Tryz.f217.name, by decide, Tryz.func217.trans (congrArg some (by kernel_rfl))⟩
  f92 := ⟨Tryz.f218.name, by decide, Tryz.func218.trans (congrArg some (by kernel_rfl))⟩
  f96 := ⟨Tryz.f231.name, by decide, Tryz.func231.trans (congrArg some (by kernel_rfl))⟩
  t0 := Tryz.underlying0
  a0 := Tryz.isAgg0
  z0 := Tryz.sizeOf0
  v0 := Tryz.zeroValue0
  t3 := Tryz.underlying3
  a3 := Tryz.isAgg3
  z3 := Tryz.sizeOf3
  v3 := Tryz.zeroValue3
  t4 := Tryz.underlying4
  a4 := Tryz.isAgg4
  z4 := Tryz.sizeOf4
  v4 := Tryz.zeroValue4
  t5 := Tryz.underlying5
  a5 := Tryz.isAgg5
  z5 := Tryz.sizeOf5
  v5 := Tryz.zeroValue5
  t9 := Tryz.underlying9
  a9 := Tryz.isAgg9
  z9 := Tryz.sizeOf9
  v9 := Tryz.zeroValue9
  t22 := Tryz.underlying39
  a22 := Tryz.isAgg39
  z22 := Tryz.sizeOf39
  v22 := Tryz.zeroValue39
  t23 := Tryz.underlying3
  a23 := Tryz.isAgg3
  z23 := Tryz.sizeOf3
  v23 := Tryz.zeroValue3
  t44 := Tryz.underlying156
  a44 := Tryz.isAgg156
  z44 := Tryz.sizeOf156
  v44 := Tryz.zeroValue156
  t51 := Tryz.underlying69
  a51 := Tryz.isAgg69
  z51 := Tryz.sizeOf69
  v51 := Tryz.zeroValue69
  t60 := Tryz.underlying214
  a60 := Tryz.isAgg214
  z60 := Tryz.sizeOf214
  v60 := Tryz.zeroValue214
  t61 := Tryz.underlying215
  a61 := Tryz.isAgg215
  z61 := Tryz.sizeOf215
  v61 := Tryz.zeroValue215
  t67 := Tryz.underlying221
  a67 := Tryz.isAgg221
  z67 := Tryz.sizeOf221
  v67 := Tryz.zeroValue221
  t69 := Tryz.underlying28
  a69 := Tryz.isAgg28
  z69 := Tryz.sizeOf28
  v69 := Tryz.zeroValue28
  t75 := Tryz.underlying245
  a75 := Tryz.isAgg245
  z75 := Tryz.sizeOf245
  v75 := Tryz.zeroValue245
  t79 := Tryz.underlying249
  a79 := Tryz.isAgg249
  z79 := Tryz.sizeOf249
  v79 := Tryz.zeroValue249
  t83 := Tryz.underlying258
  a83 := Tryz.isAgg258
  z83 := Tryz.sizeOf258
  v83 := Tryz.zeroValue258
  t84 := Tryz.underlying191
  a84 := Tryz.isAgg191
  z84 := Tryz.sizeOf191
  v84 := Tryz.zeroValue191 }
def Tryz.sort119_ren : Go.Shelf.Ren := ⟨fun | 54 => 119 | 64 => 151 | 65 => 152 | 78 => 178 | 79 => 179 | 80 => 180 | 81 => 181 | 82 => 182 | 83 => 183 | 84 => 184 | 85 => 185 | 61 => 186 | 86 => 187 | 87 => 188 | 93 => 219 | 89 => 215 | 90 => 216 | 94 => 220 | 95 => 221 | 69 => 222 | 97 => 232 | n => n, fun | 25 => 22 | 26 => 9 | 3 => 3 | 51 => 69 | 0 => 0 | 67 => 221 | 69 => 28 | 4 => 4 | 61 => 215 | 60 => 214 | 44 => 156 | 5 => 5 | 9 => 9 | 75 => 245 | 79 => 249 | 83 => 258 | 84 => 191 | n => n, fun | n => n⟩
theorem Tryz.sort119 : Go.Proofs.SlLaysN.n54 Tryz.prog Tryz.sort119_ren := {
  mixed := by kernel_rfl
  f54 := ⟨Tryz.f119.name, by decide, Tryz.func119.trans (congrArg some (by kernel_rfl))⟩
  f61 := ⟨Tryz.f186.name, by decide, Tryz.func186.trans (congrArg some (by kernel_rfl))⟩
  f64 := Tryz.func151.trans (congrArg some (by kernel_rfl))
  f65 := ⟨Tryz.f152.name, by decide, Tryz.func152.trans (congrArg some (by kernel_rfl))⟩
  f69 := ⟨Tryz.f222.name, by decide, Tryz.func222.trans (congrArg some (by kernel_rfl))⟩
  f78 := Tryz.func178.trans (congrArg some (by kernel_rfl))
  f79 := Tryz.func179.trans (congrArg some (by kernel_rfl))
  f80 := ⟨Tryz.f180.name, by decide, Tryz.func180.trans (congrArg some (by kernel_rfl))⟩
  f81 := ⟨Tryz.f181.name, by decide, Tryz.func181.trans (congrArg some (by kernel_rfl))⟩
  f82 := ⟨Tryz.f182.name, by decide, Tryz.func182.trans (congrArg some (by kernel_rfl))⟩
  f83 := ⟨Tryz.f183.name, by decide, Tryz.func183.trans (congrArg some (by kernel_rfl))⟩
  f84 := ⟨Tryz.f184.name, by decide, Tryz.func184.trans (congrArg some (by kernel_rfl))⟩
  f85 := ⟨Tryz.f185.name, by decide, Tryz.func185.trans (congrArg some (by kernel_rfl))⟩
  f86 := ⟨Tryz.f187.name, by decide, Tryz.func187.trans (congrArg some (by kernel_rfl))⟩
  f87 := ⟨Tryz.f188.name, by decide, Tryz.func188.trans (congrArg some (by kernel_rfl))⟩
  f89 := Tryz.func215.trans (congrArg some (by kernel_rfl))
  f90 := Tryz.func216.trans (congrArg some (by kernel_rfl))
  f93 := ⟨Tryz.f219.name, by decide, Tryz.func219.trans (congrArg some (by kernel_rfl))⟩
  f94 := ⟨Tryz.f220.name, by decide, Tryz.func220.trans (congrArg some (by kernel_rfl))⟩
  f95 := ⟨Tryz.f221.name, by decide, Tryz.func221.trans (congrArg some (by kernel_rfl))⟩
  f97 := ⟨Tryz.f232.name, by decide, Tryz.func232.trans (congrArg some (by kernel_rfl))⟩
  t0 := Tryz.underlying0
  a0 := Tryz.isAgg0
  z0 := Tryz.sizeOf0
  v0 := Tryz.zeroValue0
  t3 := Tryz.underlying3
  a3 := Tryz.isAgg3
  z3 := Tryz.sizeOf3
  v3 := Tryz.zeroValue3
  t4 := Tryz.underlying4
  a4 := Tryz.isAgg4
  z4 := Tryz.sizeOf4
  v4 := Tryz.zeroValue4
  t5 := Tryz.underlying5
  a5 := Tryz.isAgg5
  z5 := Tryz.sizeOf5
  v5 := Tryz.zeroValue5
  t9 := Tryz.underlying9
  a9 := Tryz.isAgg9
  z9 := Tryz.sizeOf9
  v9 := Tryz.zeroValue9
  t25 := Tryz.underlying22
  a25 := Tryz.isAgg22
  z25 := Tryz.sizeOf22
  v25 := Tryz.zeroValue22
  t26 := Tryz.underlying9
  a26 := Tryz.isAgg9
  z26 := Tryz.sizeOf9
  v26 := Tryz.zeroValue9
  t44 := Tryz.underlying156
  a44 := Tryz.isAgg156
  z44 := Tryz.sizeOf156
  v44 := Tryz.zeroValue156
  t51 := Tryz.underlying69
  a51 := Tryz.isAgg69
  z51 := Tryz.sizeOf69
  v51 := Tryz.zeroValue69
  t60 := Tryz.underlying214
  a60 := Tryz.isAgg214
  z60 := Tryz.sizeOf214
  v60 := Tryz.zeroValue214
  t61 := Tryz.underlying215
  a61 := Tryz.isAgg215
  z61 := Tryz.sizeOf215
  v61 := Tryz.zeroValue215
  t67 := Tryz.underlying221
  a67 := Tryz.isAgg221
  z67 := Tryz.sizeOf221
  v67 := Tryz.zeroValue221
  t69 := Tryz.underlying28
  a69 := Tryz.isAgg28
  z69 := Tryz.sizeOf28
  v69 := Tryz.zeroValue28
  t75 := Tryz.underlying245
  a75 := Tryz.isAgg245
  z75 := Tryz.sizeOf245
  v75 := Tryz.zeroValue245
  t79 := Tryz.underlying249
  a79 := Tryz.isAgg249
  z79 := Tryz.sizeOf249
  v79 := Tryz.zeroValue249
  t83 := Tryz.underlying258
  a83 := Tryz.isAgg258
  z83 := Tryz.sizeOf258
  v83 := Tryz.zeroValue258
  t84 := Tryz.underlying191
  a84 := Tryz.isAgg191
  z84 := Tryz.sizeOf191
  v84 := Tryz.zeroValue191 }
def Tryz.sort121_ren : Go.Shelf.Ren := ⟨fun | 6 => 121 | 15 => 151 | 14 => 153 | 28 => 178 | 29 => 179 | 20 => 189 | 21 => 190 | 22 => 191 | 23 => 192 | 24 => 193 | 25 => 194 | 26 => 195 | 27 => 196 | 46 => 223 | 47 => 215 | 48 => 216 | 49 => 224 | 50 => 225 | 57 => 233 | n => n, fun | 22 => 23 | 24 => 48 | 25 => 135 | 3 => 3 | 39 => 69 | 0 => 0 | 53 => 221 | 55 => 28 | 4 => 4 | 46 => 215 | 45 => 214 | 50 => 156 | 5 => 5 | 9 => 9 | 66 => 245 | 70 => 249 | 76 => 258 | 77 => 191 | n => n, fun | n => n⟩
theorem Tryz.sort121 : Go.Proofs.SlLaysF0.n6 Tryz.prog Tryz.sort121_ren := {
  mixed := by kernel_rfl
  f6 := ⟨Tryz.f121.name, by decide, Tryz.func121.trans (congrArg some (by kernel_rfl))⟩
  f14 := ⟨Tryz.f153.name, by decide, Tryz.func153.trans (congrArg some (by kernel_rfl))⟩
  f15 := Tryz.func151.trans (congrArg some (by kernel_rfl))
  f20 := ⟨Tryz.f189.name, by decide, Tryz.func189.trans (congrArg some (by kernel_rfl))⟩
  f21 := ⟨Tryz.f190.name, by decide, Tryz.func190.trans (congrArg some (by kernel_rfl))⟩
  f22 := ⟨Tryz.f191.name, by decide, Tryz.func191.trans (congrArg some (by kernel_rfl))⟩
  f23 := ⟨Tryz.f192.name, by decide, Tryz.func192.trans (congrArg some (by kernel_rfl))⟩
  f24 := ⟨Tryz.f193.name, by decide, Tryz.func193.trans (congrArg some (by kernel_rfl))⟩
  f25 := ⟨Tryz.f194.name, by decide, Tryz.func194.trans (congrArg some (by kernel_rfl))⟩
  f26 := ⟨Tryz.f195.name, by decide, Tryz.func195.trans (congrArg some (by kernel_rfl))⟩
  f27 := ⟨Tryz.f196.name, by decide, Tryz.func196.trans (congrArg some (by kernel_rfl))⟩
  f28 := Tryz.func178.trans (congrArg some (by kernel_rfl))
  f29 := Tryz.func179.trans (congrArg some (by kernel_rfl))
  f46 := ⟨Tryz.f223.name, by decide, Tryz.func223.trans (congrArg some (by kernel_rfl))⟩
  f47 := Tryz.func215.trans (congrArg some (by kernel_rfl))
  f48 := Tryz.func216.trans (congrArg some (by kernel_rfl))
  f49 := ⟨Tryz.f224.name, by decide, Tryz.func224.trans (congrArg some (by kernel_rfl))⟩
  f50 := ⟨Tryz.f225.name, by decide, Tryz.func225.trans (congrArg some (by kernel_rfl))⟩
  f57 := ⟨Tryz.f233.name, by decide, Tryz.func233.trans (congrArg some (by kernel_rfl))⟩
  t0 := Tryz.underlying0
  a0 := Tryz.isAgg0
  z0 := Tryz.sizeOf0
  v0 := Tryz.zeroValue0
  t3 := Tryz.underlying3
  a3 := Tryz.isAgg3
  z3 := Tryz.sizeOf3
  v3 := Tryz.zeroValue3
  t4 := Tryz.underlying4
  a4 := Tryz.isAgg4
  z4 := Tryz.sizeOf4
  v4 := Tryz.zeroValue4
  t5 := Tryz.underlying5
  a5 := Tryz.isAgg5
  z5 := Tryz.sizeOf5
  v5 := Tryz.zeroValue5
  t9 := Tryz.underlying9
  a9 := Tryz.isAgg9
  z9 := Tryz.sizeOf9
  v9 := Tryz.zeroValue9
  t22 := Tryz.underlying23
  a22 := Tryz.isAgg23
  z22 := Tryz.sizeOf23
  v22 := Tryz.zeroValue23
  t25 := Tryz.underlying135
  a25 := Tryz.isAgg135
  z25 := Tryz.sizeOf135
  v25 := Tryz.zeroValue135
  t39 := Tryz.underlying69
  a39 := Tryz.isAgg69
  z39 := Tryz.sizeOf69
  v39 := Tryz.zeroValue69
  t45 := Tryz.underlying214
  a45 := Tryz.isAgg214
  z45 := Tryz.sizeOf214
  v45 := Tryz.zeroValue214
  t46 := Tryz.underlying215
  a46 := Tryz.isAgg215
  z46 := Tryz.sizeOf215
  v46 := Tryz.zeroValue215
  t50 := Tryz.underlying156
  a50 := Tryz.isAgg156
  z50 := Tryz.sizeOf156
  v50 := Tryz.zeroValue156
  t53 := Tryz.underlying221
  a53 := Tryz.isAgg221
  z53 := Tryz.sizeOf221
  v53 := Tryz.zeroValue221
  t55 := Tryz.underlying28
  a55 := Tryz.isAgg28
  z55 := Tryz.sizeOf28
  v55 := Tryz.zeroValue28
  t66 := Tryz.underlying245
  a66 := Tryz.isAgg245
  z66 := Tryz.sizeOf245
  v66 := Tryz.zeroValue245
  t70 := Tryz.underlying249
  a70 := Tryz.isAgg249
  z70 := Tryz.sizeOf249
  v70 := Tryz.zeroValue249
  t76 := Tryz.underlying258
  a76 := Tryz.isAgg258
  z76 := Tryz.sizeOf258
  v76 := Tryz.zeroValue258
  t77 := Tryz.underlying191
  a77 := Tryz.isAgg191
  z77 := Tryz.sizeOf191
  v77 := Tryz.zeroValue191 }
def Tryz.sort122_ren : Go.Shelf.Ren := ⟨fun | 6 => 122 | 15 => 151 | 14 => 154 | 28 => 178 | 29 => 179 | 20 => 197 | 21 => 198 | 22 => 199 | 23 => 200 | 24 => 201 | 25 => 202 | 26 => 203 | 27 => 204 | 46 => 226 | 47 => 215 | 48 => 216 | 49 => 227 | 50 => 228 | 57 => 234 | n => n, fun | 22 => 24 | 24 => 41 | 25 => 139 | 3 => 3 | 39 => 69 | 0 => 0 | 53 => 221 | 55 => 28 | 4 => 4 | 46 => 215 | 45 => 214 | 50 => 156 | 5 => 5 | 9 => 9 | 66 => 245 | 70 => 249 | 76 => 258 | 77 => 191 | n => n, fun | n => n⟩
theorem Tryz.sort122 : Go.Proofs.SlLaysF0.n6 Tryz.prog Tryz.sort122_ren := {
  mixed := by kernel_rfl
  f6 := ⟨Tryz.f122.name, by decide, Tryz.func122.trans (congrArg some (by kernel_rfl))⟩
  f14 := ⟨Tryz.f154.name, by decide, Tryz.func154.trans (congrArg some (by kernel_rfl))⟩
  f15 := Tryz.func151.trans (congrArg some (by kernel_rfl))
  f20 := ⟨Tryz.f197.name, by decide, Tryz.func197.trans (congrArg some (by kernel_rfl))⟩
  f21 := ⟨Tryz.f198.name, by decide, Tryz.func198.trans (congrArg some (by kernel_rfl))⟩
  f22 := ⟨Tryz.f199.name, by decide, Tryz.func199.trans (congrArg some (by kernel_rfl))⟩
  f23 := ⟨Tryz.f200.name, by decide, Tryz.func200.trans (congrArg some (by kernel_rfl))⟩
  f24 := ⟨Tryz.f201.name, by decide, Tryz.func201.trans (congrArg some (by kernel_rfl))⟩
  f25 := ⟨Tryz.f202.name, by decide, Tryz.func202.trans (congrArg some (by kernel_rfl))⟩
  f26 := ⟨Tryz.f203.name, by decide, Tryz.func203.trans (congrArg some (by kernel_rfl))⟩
  f27 := ⟨Tryz.f204.name, by decide, Tryz.func204.trans (congrArg some (by kernel_rfl))⟩
  f28 := Tryz.func178.trans (congrArg some (by kernel_rfl))
  f29 := Tryz.func179.trans (congrArg some (by kernel_rfl))
  f46 := ⟨Tryz.f226.name, by decide, Tryz.func226.trans (congrArg some (by kernel_rfl))⟩
  f47 := Tryz.func215.trans (congrArg some (by kernel_rfl))
  f48 := Tryz.func216.trans (congrArg some (by kernel_rfl))
  f49 := ⟨Tryz.f227.name, by decide, Tryz.func227.trans (congrArg some (by kernel_rfl))⟩
  f50 := ⟨Tryz.f228.name, by decide, Tryz.func228.trans (congrArg some (by kernel_rfl))⟩
  f57 := ⟨Tryz.f234.name, by decide, Tryz.func234.trans (congrArg some (by kernel_rfl))⟩
  t0 := Tryz.underlying0
  a0 := Tryz.isAgg0
  z0 := Tryz.sizeOf0
  v0 := Tryz.zeroValue0
  t3 := Tryz.underlying3
  a3 := Tryz.isAgg3
  z3 := Tryz.sizeOf3
  v3 := Tryz.zeroValue3
  t4 := Tryz.underlying4
  a4 := Tryz.isAgg4
  z4 := Tryz.sizeOf4
  v4 := Tryz.zeroValue4
  t5 := Tryz.underlying5
  a5 := Tryz.isAgg5
  z5 := Tryz.sizeOf5
  v5 := Tryz.zeroValue5
  t9 := Tryz.underlying9
  a9 := Tryz.isAgg9
  z9 := Tryz.sizeOf9
  v9 := Tryz.zeroValue9
  t22 := Tryz.underlying24
  a22 := Tryz.isAgg24
  z22 := Tryz.sizeOf24
  v22 := Tryz.zeroValue24
  t25 := Tryz.underlying139
  a25 := Tryz.isAgg139
  z25 := Tryz.sizeOf139
  v25 := Tryz.zeroValue139
  t39 := Tryz.underlying69
  a39 := Tryz.isAgg69
  z39 := Tryz.sizeOf69
  v39 := Tryz.zeroValue69
  t45 := Tryz.underlying214
  a45 := Tryz.isAgg214
  z45 := Tryz.sizeOf214
  v45 := Tryz.zeroValue214
  t46 := Tryz.underlying215
  a46 := Tryz.isAgg215
  z46 := Tryz.sizeOf215
  v46 := Tryz.zeroValue215
  t50 := Tryz.underlying156
  a50 := Tryz.isAgg156
  z50 := Tryz.sizeOf156
  v50 := Tryz.zeroValue156
  t53 := Tryz.underlying221
  a53 := Tryz.isAgg221
  z53 := Tryz.sizeOf221
  v53 := Tryz.zeroValue221
  t55 := Tryz.underlying28
  a55 := Tryz.isAgg28
  z55 := Tryz.sizeOf28
  v55 := Tryz.zeroValue28
  t66 := Tryz.underlying245
  a66 := Tryz.isAgg245
  z66 := Tryz.sizeOf245
  v66 := Tryz.zeroValue245
  t70 := Tryz.underlying249
  a70 := Tryz.isAgg249
  z70 := Tryz.sizeOf249
  v70 := Tryz.zeroValue249
  t76 := Tryz.underlying258
  a76 := Tryz.isAgg258
  z76 := Tryz.sizeOf258
  v76 := Tryz.zeroValue258
  t77 := Tryz.underlying191
  a77 := Tryz.isAgg191
  z77 := Tryz.sizeOf191
  v77 := Tryz.zeroValue191 }
end Go.Proofs
namespace Go.Bw
open Go Go.RowKit

def Raw (k : Nat) : Type := { cs : List Value // cs.length = k ∧ ∀ u ∈ cs, u.oneCell' = true }
instance {k : Nat} : Inhabited (Raw k) := ⟨⟨List.replicate k .nilFunc, by simp, fun u hu => by rw [(List.mem_replicate.1 hu).2]; rfl⟩⟩
def Fl.raw (k : Nat) (hk : 0 < k) : Fl (Raw k) := ⟨k, fun x => x.1, fun x => x.2.1, fun x => x.2.2, hk⟩
def rawOf (k : Nat) (cs : List Value) (h1 : cs.length = k) (h2 : cs.all (·.oneCell') = true) : Raw k := ⟨cs, h1, fun u hu => List.all_eq_true.1 h2 u hu⟩
section
variable {α : Type}
def gins (T : Ow α) (xs : List α) (css : List (Raw T.sz)) : List HProp := List.zipWith (fun x cs => T.own x cs.1) xs css
def grow (T : Ow α) (e : Nat) (A : Option Addr) (n c : Nat) (xs : List α) : HProp := fun h =>
 ∃ css : List (Raw T.sz), (fun h => css.length = xs.length ∧ stars (row (Fl.raw T.sz T.pos) e A n c css :: gins T xs css) h) h
theorem sat.grow {R : Res} {T : Ow α} {e : Nat} {A : Option Addr} {n c : Nat} {xs : List α} {l : List HProp} {w : World} :
 sat R (Bw.grow T e A n c xs :: l) w ↔ ∃ css : List (Raw T.sz), css.length = xs.length ∧ sat R (row (Fl.raw T.sz T.pos) e A n c css :: (gins T xs css ++ l)) w := by
 unfold Bw.grow
 rw [sat.ex]
 constructor
 ·rintro ⟨bs, h⟩
  have hb : bs.length = xs.length := let ⟨_, o, _⟩ := h.head; o.1
  exact ⟨bs, hb, sat.flat.1 (h.imp fun h o => o.2)⟩
 ·rintro ⟨bs, hb, h⟩
  exact ⟨bs, (sat.flat.2 h).imp fun h o => ⟨hb, o⟩⟩
theorem Q169 {T : Ow α} {e : Nat} {A : Option Addr} {n c : Nat} {xs : List α} {h : PHeap} (o : grow T e A n c xs h) : xs.length = n ∧ n ≤ c := by
 obtain ⟨css, hb, h1, _, o, _⟩ := o
 have := Q97 o
 refine ⟨by omega, ?_⟩
 rw [← this] at o ⊢
 exact Q167 o
theorem Q334 {M X Y : List HProp} (i : ∀ h, stars X h → stars Y h) {h : PHeap} (s : stars (M ++ X) h) : stars (M ++ Y) h := by
 obtain ⟨h1, h2, s1, s2, d, t1, t2⟩ := Q104.1 s
 exact Q104.2 ⟨h1, h2, s1, i _ s2, d, t1, t2⟩
theorem sat.tail {R : Res} {M X Y : List HProp} {w : World} (i : ∀ h, stars X h → stars Y h) (hs : sat R (M ++ X) w) : sat R (M ++ Y) w :=
 let ⟨ok, h, s, d⟩ := hs
 ⟨ok, h, Q334 i s, d⟩
theorem Q234 {L l : List HProp} {c : HProp} (e : Ent L c) {h : PHeap} (s : stars (L ++ l) h) : stars (c :: l) h := by
 obtain ⟨h1, h2, s1, s2, d, t1, t2⟩ := Q104.1 s
 exact ⟨h1, h2, e _ s1, s2, d, t1, t2⟩
theorem Q333 {c : HProp} {l : List HProp} {h : PHeap} (s : stars (c :: l) h) : stars l h := let ⟨_, _, _, b, _, _, s2⟩ := s; Q200 b s2
theorem Q233 {T : Ow α} {xs : List α} {css : List (Raw T.sz)} {i : Nat} {x : α} {cs : Raw T.sz} (hx : xs[i]? = some x) (hc : css[i]? = some cs) : (gins T xs css)[i]? = some (T.own x cs.1) := by
 unfold gins
 rw [List.getElem?_zipWith, hx, hc]
def optp (p : Option Nat) : Value := .pointer (p.map fun b => ⟨b, 0, none⟩)
def opti (t : Nat) (p : Option Nat) : Value := match p with | none => .nilIface | some b => .iface t (.pointer (some ⟨b, 0, none⟩))
def optb (T : Ow α) (t : Nat) (p : Option Nat) (o : Option α) : HProp := fun h => match p, o with
 | some b, some x => ∃ cs, stars [pt b (.cells cs.toArray t), T.own x cs] h
 | none, none => True
 | _, _ => False
theorem optb_none {T : Ow α} {t : Nat} {p : Option Nat} {o : Option α} {h : PHeap} (k : optb T t p o h) : p.isNone = o.isNone := by
 cases p <;> cases o <;> first | rfl | exact k.elim
end
section
variable {P : Program} [Tys P] {os : List Oper} {Q : Exit → Act → World → Prop} {rest : List Oper} {n : Nat} {ds : List Deferred} {R : Res} {env : List (Nat × Value)} {l l' : List HProp}
variable {d ty : Nat} {pos : String} {af : Array Edge} {g : Option (Nat × Bool)} {α : Type} {T : Ow α} {e t : Nat} {A : Option Addr} {c m : Nat} {xs : List α} {K : Act → World → Prop} {dd : Option Nat}
theorem At.nilGrow (T : Ow α) (e : Nat) (h : At n ds R env (grow T e none 0 0 [] :: l) K) : At n ds R env l K := fun a w e0 hs => h a w e0 (by
 obtain ⟨ok, k, s, d⟩ := hs
 exact ⟨ok, k, Q158 ⟨[], rfl, Q158 ⟨by simp, .inl ⟨rfl, by simp, rfl⟩⟩ trivial⟩ s, d⟩)
theorem At.growLen (f : Frt l (grow T e A m c xs) l') (h : xs.length = m → m ≤ c → At n ds R env l K) : At n ds R env l K := fun a w e0 hs =>
 let ⟨_, o, _⟩ := (hs.frt f).head
 h (Q169 o).1 (Q169 o).2 a w e0 hs
theorem At.appendGrow (hg : grd os env g = some true) {x y : Operand} {D : Option Addr} {ct bytes : Nat} {cs : Raw T.sz} {L : List HProp} {z : α} {ii j : TI} {M : List HProp} (hl : l = grow T e A m c xs :: row (Fl.raw T.sz T.pos) e D 1 ct [cs] :: M) (ent : Ent L (T.own z cs.1)) (hM : M = L ++ l') (hi : ti P t = some ii) (hk : ii.k = .slice e) (hj : ti P e = some j) (hjs : j.size = T.sz) (hjb : j.bytes = bytes)
 (hx : ev env x = some (.slice A m c)) (hy : ev env y = some (.slice D 1 ct)) (hz : j.zero.length = j.size) (hb : (m + 1) * bytes ≤ 140737488355328) (hb0 : 0 < bytes) (hd : Nat.blt d n = true)
 (h : ∀ A' c', At n ds R ((d, .slice A' (xs ++ [z]).length c') :: env) (grow T e A' (xs ++ [z]).length c' (xs ++ [z]) :: l') (wpList P os.toArray Q rest)) :
 At n ds R env l (wpList P os.toArray Q (⟨some d, .call ⟨.builtin .append, #[x, y], #[t, t]⟩, ty, pos, af, g⟩ :: rest)) := fun a w e0 hs => by
 subst hl hM
 obtain ⟨css, hbl, h2⟩ := sat.grow.1 hs
 have fr : Frt (row (Fl.raw T.sz T.pos) e A m c css :: (gins T xs css ++ row (Fl.raw T.sz T.pos) e D 1 ct [cs] :: (L ++ l'))) (row (Fl.raw T.sz T.pos) e D [cs].length ct [cs]) (row (Fl.raw T.sz T.pos) e A m c css :: (gins T xs css ++ (L ++ l'))) := .s (frt_app .z)
 refine At.append (F := Fl.raw T.sz T.pos) (xs := css) (ys := [cs]) hg .z (Src.own fr (by simp)) hi hk hj hjs hjb hx hy hz hb hb0 hd ?_ a w e0 h2
 intro A' c' a w e0 hs3
 have hl : (css ++ [cs]).length = (xs ++ [z]).length := by simp [hbl]
 rw [hl] at e0 hs3
 refine h A' c' a w e0 (sat.grow.2 ⟨css ++ [cs], hl, ?_⟩)
 have hg2 : gins T (xs ++ [z]) (css ++ [cs]) = gins T xs css ++ [T.own z cs.1] := by
  unfold gins
  rw [List.zipWith_append hbl.symm]
  rfl
 rw [hg2, List.append_assoc]
 exact sat.tail (M := row (Fl.raw T.sz T.pos) e A' (xs ++ [z]).length c' (css ++ [cs]) :: gins T xs css) (fun h s => Q234 ent (Q333 s)) hs3
theorem grow_rd {h H : PHeap} (o : grow T e A m c xs h) (s : Sub h H) : RdS T.rep H A xs := fun i x hx => by
 have hi : i < xs.length := (List.getElem?_eq_some_iff.1 hx).1
 have hlen : xs.length = m := (Q169 o).1
 subst hlen
 obtain ⟨css, hb, h1, h2, ow, inn, _, s1, s2⟩ := o
 have hbi : i < css.length := by omega
 have hbe : css[i]? = some css[i] := List.getElem?_eq_getElem hbi
 obtain ⟨h', ro, sr⟩ := Q198 inn (Q233 hx hbe)
 rw [← hb] at ow
 obtain ⟨ad, cs, hA, hk, hr⟩ := Q176 ow (s1.trans s) i css[i] hbe
 have hk' : cs = css[i].1 := hk
 subst hk'
 refine ⟨ad, css[i].1, hA, T.rd ro (sr.trans (s2.trans s)), ?_⟩
 rw [T.rsz]
 exact hr
theorem At.freezeGrow (f : Frt l (grow T e A m c xs) l')
 (k : ∀ R', RdS T.rep R'.heap A xs → xs.length = m → m ≤ c → Sub R.heap R'.heap → (∀ l w, sat R' l w → sat R (grow T e A m c xs :: l) w) → At n ds R' env l' K) : At n ds R env l K := fun a w e0 hs => by
 obtain ⟨h1, o, dj, hs'⟩ := (hs.frt f).freeze
 exact k (R.add h1) (grow_rd o (Q95 _ _)) (Q169 o).1 (Q169 o).2 (Q80 dj) (fun l w h => h.thaw o dj) a w e0 hs'
theorem At.optNone (T : Ow α) (t : Nat) (h : At n ds R env (optb T t none none :: l) K) : At n ds R env l K := fun a w e0 hs => h a w e0 (by
 obtain ⟨ok, k, s, d⟩ := hs
 exact ⟨ok, k, Q158 trivial s, d⟩)
theorem At.optSome {b : Nat} {x : α} {cs : List Value} {L : List HProp} (ent : Ent L (T.own x cs)) (h : At n ds R env (optb T t (some b) (some x) :: l') K) : At n ds R env (pt b (.cells cs.toArray t) :: (L ++ l')) K := fun a w e0 hs => h a w e0 (by
 obtain ⟨ok, k, ⟨h1, h2, p, s, d, t1, t2⟩, dR, ss⟩ := hs
 obtain ⟨h3, h4, o, s', d', t3, t4⟩ := Q234 ent s
 have d13 : Disj h1 h3 := d.sub (Sub.refl _) t3
 refine ⟨ok, k, ⟨uni h1 h3, h4, ⟨cs, h1, h3, p, ⟨h3, fun _ => none, o, trivial, (fun _ _ _ _ e => by cases e), Sub.refl _, (fun _ _ e => by cases e)⟩, d13, Q95 _ _, Q80 d13⟩, s', Disj.uni_l (d.sub (Sub.refl _) t4) d', Q117 t1 (t3.trans t2), t4.trans t2⟩, dR, ss⟩)
theorem At.optOpen [Inhabited α] {p : Option Nat} {o : Option α} (f : Frt l (optb T t p o) l') (ho : o.isNone = false)
 (h : ∀ b, p = some b → ∀ cs, At n ds R env (pt b (.cells cs.toArray t) :: T.own (o.getD default) cs :: l') K) : At n ds R env l K := fun a w e0 hs => by
 have hs1 := hs.frt f
 cases o with
 | none => cases ho
 | some x =>
  cases p with
  | none => obtain ⟨_, k, _⟩ := hs1.head; exact k.elim
  | some b =>
   obtain ⟨ok, k, ⟨h1, h2, ⟨cs, k1, k2, p1, ⟨k3, _, p2, _, _, u1, _⟩, d1, v1, v2⟩, s, d, t1, t2⟩, dR, ss⟩ := hs1
   have k12 : Disj k1 k3 := d1.sub (Sub.refl _) u1
   refine h b rfl cs a w e0 ⟨ok, k, ⟨k1, uni k3 h2, p1, ⟨k3, h2, p2, s, d.sub (u1.trans v2) (Sub.refl _), Q95 _ _, Q80 (d.sub (u1.trans v2) (Sub.refl _))⟩, Disj.uni_r k12 (d.sub v1 (Sub.refl _)), v1.trans t1, Q117 ((u1.trans v2).trans t1) t2⟩, dR, ss⟩
theorem At.ownFl {F : Fl α} {x : α} {cs : List Value} (f : Frt l ((Ow.fl F).own x cs) l') (h : cs = F.enc x → At n ds R env l' K) : At n ds R env l K := fun a w e0 hs =>
 h (let ⟨_, o, _⟩ := (hs.frt f).head; o) a w e0 (hs.frt f).drop
theorem Q288 {w : World} {el : Nat} {ii : TI} (hi : ti P t = some ii) (hk : ii.k = .pointer el) (p : Option Nat) : (Op.equal t (optp p) (.pointer none)).run P w = .ok p.isNone w := by
 show (Op.equalIn (9999 + 1) t _ _).run P w = _
 unfold Op.equalIn
 simp only [Sem.run_bind, run_underlying ((Q13 hi).pointer hk), Result.andThen_ok]
 cases p <;> rfl
theorem Q264 {w : World} {ii : TI} (hi : ti P t = some ii) (hk : ii.k = .iface) (tt : Nat) (p : Option Nat) : (Op.equal t (opti tt p) .nilIface).run P w = .ok p.isNone w := by
 obtain ⟨ms, hu⟩ := (Q13 hi).iface hk
 show (Op.equalIn (9999 + 1) t _ _).run P w = _
 unfold Op.equalIn
 simp only [Sem.run_bind, run_underlying hu, Result.andThen_ok]
 cases p <;> rfl
theorem Q208 {w : World} {tt : Nat} {p : Option Nat} {o : Option α} (f : Frt l (optb T tt p o) l') (hs : sat R l w) : p.isNone = o.isNone := let ⟨_, k, _⟩ := (hs.frt f).head; optb_none k
theorem Y.eqOpt {x y : Operand} {yt tt el : Nat} {p : Option Nat} {o : Option α} {ii : TI} (f : Frt l (optb T tt p o) l') (hi : ti P t = some ii) (hk : ii.k = .pointer el) (hx : ev env x = some (optp p)) (hy : ev env y = some (.pointer none)) :
 Y P n ds R env l ⟨dd, .binOp .eql t x y yt, ty, pos, af, g⟩ (.bool o.isNone) := fun a w e0 hs => by
 have := Q288 (P := P) (w := w) hi hk p
 have h2 := Q208 f hs
 simp only [execOp, e0.ev hx, e0.ev hy, eqGuard, Sem.run_bind]
 simp [optp, binOp] at this ⊢
 simp [this, h2]
theorem Y.neOpt {x y : Operand} {yt tt el : Nat} {p : Option Nat} {o : Option α} {ii : TI} (f : Frt l (optb T tt p o) l') (hi : ti P t = some ii) (hk : ii.k = .pointer el) (hx : ev env x = some (optp p)) (hy : ev env y = some (.pointer none)) :
 Y P n ds R env l ⟨dd, .binOp .neq t x y yt, ty, pos, af, g⟩ (.bool (!o.isNone)) := fun a w e0 hs => by
 have := Q288 (P := P) (w := w) hi hk p
 have h2 := Q208 f hs
 simp only [execOp, e0.ev hx, e0.ev hy, eqGuard, Sem.run_bind]
 simp [optp, binOp] at this ⊢
 simp [this, h2]
theorem Y.neOptI {x : Operand} {yt tt ti' : Nat} {p : Option Nat} {o : Option α} {ii : TI} (f : Frt l (optb T tt p o) l') (hi : ti P t = some ii) (hk : ii.k = .iface) (hx : ev env x = some (opti ti' p)) :
 Y P n ds R env l ⟨dd, .binOp .neq t x (.const .nilIface) yt, ty, pos, af, g⟩ (.bool (!o.isNone)) := fun a w e0 hs => by
 have := Q264 (P := P) (w := w) hi hk ti' p
 have h2 := Q208 f hs
 have hc : a.eval (.const .nilIface) = .nilIface := rfl
 cases p with
 | none => simp [execOp, e0.ev hx, hc, eqGuard, opti, binOp] at this ⊢; simp [this, ← h2]
 | some b => simp [execOp, e0.ev hx, hc, eqGuard, opti, binOp] at this ⊢; simp [this]; cases o <;> simp_all
theorem Y.eqIfK {x : Operand} {v : Value} {yt ti' : Nat} (p : Option Nat) {ii : TI} (hi : ti P t = some ii) (hk : ii.k = .iface) (hx : ev env x = some v) (hv : v = opti ti' p) :
 Y P n ds R env l ⟨dd, .binOp .eql t x (.const .nilIface) yt, ty, pos, af, g⟩ (.bool p.isNone) := fun a w e0 hs => by
 subst hv
 have := Q264 (P := P) (w := w) hi hk ti' p
 have hc : a.eval (.const .nilIface) = .nilIface := rfl
 cases p with
 | none => simp [execOp, e0.ev hx, hc, eqGuard, opti, binOp] at this ⊢; simp [this]
 | some b => simp [execOp, e0.ev hx, hc, eqGuard, opti, binOp] at this ⊢; simp [this]
theorem At.ownPair {β : Type} {U : Ow β} {x : α × β} {cs : List Value} (f : Frt l ((T.pair U).own x cs) l') (h : ∀ c1 c2, cs = c1 ++ c2 → At n ds R env (T.own x.1 c1 :: U.own x.2 c2 :: l') K) : At n ds R env l K := fun a w e0 hs => by
 obtain ⟨ok, k, ⟨h1, h2, ⟨c1, c2, e1, k1, k2, a1, ⟨k3, _, a2, _, _, u1, _⟩, d1, v1, v2⟩, s, d, t1, t2⟩, dR, ss⟩ := hs.frt f
 exact h c1 c2 e1 a w e0 ⟨ok, k, ⟨k1, uni k3 h2, a1, ⟨k3, h2, a2, s, d.sub (u1.trans v2) (Sub.refl _), Q95 _ _, Q80 (d.sub (u1.trans v2) (Sub.refl _))⟩, Disj.uni_r (d1.sub (Sub.refl _) u1) (d.sub v1 (Sub.refl _)), v1.trans t1, Q117 ((u1.trans v2).trans t1) t2⟩, dR, ss⟩
end
end Go.Bw
namespace Go.Bw
open Go Go.RowKit Go.Sort Go.Proofs Go.Shelf

theorem flat_str (xs : List Bs) : xs.flatMap Fl.bs.enc = xs.map encStr := by
 induction xs with
 | nil => rfl
 | cons x xs ih => rw [List.flatMap_cons, ih]; rfl
theorem Q209 (e : Nat) (A : Option Addr) (n c : Nat) (xs : List Bs) : row Fl.bs e A n c xs = own e 1 A n c (xs.map encStr) := by
 unfold row
 rw [flat_str]
 rfl
theorem Q326 {P : Program} {ρ : Ren} (Ly : SlLaysN.n54 P ρ) (R : Res) (l : List HProp) {e n c : Nat} {A : Option Addr} {xs : List Bs} (hb : xs.length < 4611686018427387904) :
 Spec P (ρ.f 54) [.slice A n c] R (row Fl.bs e A n c xs :: l) (fun v l' => v = .tuple #[] ∧ row Fl.bs e A n c (xs.mergeSort fun x y => decide (x ≤ y)) :: l = l') := fun w hs => by
 obtain ⟨h, o, s⟩ := hs.head
 have hn := Q97 o
 subst hn
 rw [Q209] at o hs
 rcases o.2 with ⟨rfl, h0, rfl⟩ | ⟨g, cur, rfl, hg, h3, h4, h5, h6⟩
 ·have hx : xs = [] := List.eq_nil_of_length_eq_zero h0
  subst hx
  refine (AnyG.slices_Sort_string_none Ly none 0 w).mono fun e w' ⟨he, hw⟩ => ⟨_, _, he, ⟨rfl, rfl⟩, ?_⟩
  subst hw
  rw [Q209]
  simpa using hs
 ·have hgw : w.heap[g]? = some (.cells cur e) := s g _ hg
  have hH : Holds encStr w g 0 xs.toArray := Q212 hgw (by rw [Nat.mul_one] at h6; exact h6)
  refine (AnyG.slices_Sort_string Ly g 0 c xs w hH (Array.getElem?_eq_some_iff.1 hgw).1 hb).mono fun e' w' ⟨he, n, os, hw⟩ => ⟨_, _, he, ⟨rfl, rfl⟩, ?_⟩
  subst hw
  rw [Q209]
  exact sat.sorted hs (by simp)

theorem grown_of {W w : World} (h : sat (Res.of W) [] w) : ∃ q os, w = Sort.grow (W.drewN q) os := by
 obtain ⟨ok, _⟩ := h
 obtain ⟨s, h1, h2, h3, h4⟩ := ok
 refine ⟨w.drawn - W.drawn, w.heap.extract W.heap.size w.heap.size, ?_⟩
 have h4' : W.drawn ≤ w.drawn := h4
 have hsz : W.heap.size ≤ w.heap.size := by
  rcases Nat.eq_zero_or_pos W.heap.size with h0 | h0
  ·omega
  ·have := s (W.heap.size - 1) _ (Array.getElem?_eq_getElem (by omega))
   have := (Array.getElem?_eq_some_iff.1 this).1
   omega
 have hh : w.heap = W.heap ++ w.heap.extract W.heap.size w.heap.size := by
  apply Array.ext_getElem?
  intro i
  by_cases hi : i < W.heap.size
  ·rw [Array.getElem?_append_left hi]
   exact (s i _ (Array.getElem?_eq_getElem hi)).trans (Array.getElem?_eq_getElem hi).symm
  ·rw [Array.getElem?_append_right (by omega), Array.getElem?_extract]
   by_cases h2 : i < w.heap.size
   ·rw [if_pos (by omega)]
    congr 1
    omega
   ·rw [if_neg (by omega), Array.getElem?_eq_none (by omega)]
 have hd : W.drawn + (w.drawn - W.drawn) = w.drawn := by omega
 cases w
 simp only [Sort.grow, World.drewN] at *
 simp only [World.mk.injEq]
 exact ⟨hh, h2, hd.symm, h1, h3⟩
theorem Spec.reads {P : Program} {f : Nat} {args : List Value} {W : World} {u : Value} (h : Spec P f args (Res.of W) [] (fun v l' => v = u ∧ [] = l')) :
 Calls P f args.toArray W fun e w' => e = .returned u ∧ ∃ q os', w' = Sort.grow (W.drewN q) os' :=
 (h W (sat_of W)).mono fun e w' ⟨v, l', he, ⟨hv, hl⟩, hs⟩ => by
  subst hv hl
  exact ⟨he, grown_of hs⟩

section
variable {β : Type} [Inhabited β] {enc : β → List Value} {k : Nat}
theorem Q192 (hk : ∀ x, (enc x).length = k) (hk0 : 0 < k) : ∀ (xs : List β), (flatK enc k xs.toArray).toList = xs.flatMap enc := fun xs => by
 have hl : ∀ (ys : List β), (ys.flatMap enc).length = ys.length * k := fun ys => by
  induction ys with
  | nil => simp
  | cons y ys ih => rw [List.flatMap_cons, List.length_append, ih, hk, List.length_cons, Nat.succ_mul]; omega
 have hg : ∀ (ys : List β) (t : Nat), t < ys.length * k → (ys.flatMap enc)[t]? = (enc (ys[t / k]!))[t % k]? := fun ys => by
  induction ys with
  | nil => intro t ht; simp at ht
  | cons y ys ih =>
   intro t ht
   rw [List.flatMap_cons]
   by_cases h : t < k
   ·rw [List.getElem?_append_left (by rw [hk]; exact h), Nat.div_eq_of_lt h, Nat.mod_eq_of_lt h]
    rfl
   ·rw [List.length_cons, Nat.succ_mul] at ht
    rw [List.getElem?_append_right (by rw [hk]; omega), hk, ih (t - k) (by omega)]
    have h1 : t / k = (t - k) / k + 1 := by rw [Nat.div_eq, if_pos ⟨hk0, by omega⟩]
    have h2 : t % k = (t - k) % k := by rw [Nat.mod_eq_sub_mod (by omega)]
    rw [h1, h2]
    rfl
 apply List.ext_getElem?
 intro t
 by_cases ht : t < xs.length * k
 ·rw [hg xs t ht]
  have hm : t % k < k := Nat.mod_lt _ hk0
  have hq : t / k < xs.length := Nat.div_lt_of_lt_mul (by rw [Nat.mul_comm]; exact ht)
  have : t < (flatK enc k xs.toArray).size := by rw [size_flatK]; simpa using ht
  rw [Array.getElem?_toList, Array.getElem?_eq_getElem this]
  have h1 := get_flatK enc k xs.toArray t (by simpa using ht)
  rw [getElem!_pos _ t this] at h1
  rw [h1]
  have : xs.toArray[t / k]! = xs[t / k]! := by simp
  rw [this, getElem!_pos _ (t % k) (by rw [hk]; exact hm), List.getElem?_eq_getElem (by rw [hk]; exact hm)]
 ·have h1 : (xs.flatMap enc).length ≤ t := by rw [hl]; omega
  rw [List.getElem?_eq_none (l := xs.flatMap enc) h1, List.getElem?_eq_none (by rw [Array.length_toList, size_flatK]; simpa using ht)]
variable {R : Res} {l : List HProp} {w : World} {g n c e : Nat} {os : Array Obj} {cur : Array Value} {xs ys : List β}
theorem Q335 (hk : ∀ x, (enc x).length = k) (hk0 : 0 < k) (hb : w.heap[g]? = some (.cells cur e (0, 0))) (ht : cur.toList.take (xs.length * k) = xs.flatMap enc) : HoldsK enc k w g 0 xs.toArray := by
 unfold HoldsK
 have h1 := Q212 (enc := (id : Value → Value)) (xs := xs.flatMap enc) hb (by
  rw [List.map_id, ← ht, List.length_take]
  have hlen : (xs.flatMap enc).length = xs.length * k := by rw [← Q192 hk hk0]; simp
  have : (cur.toList.take (xs.length * k)).length = xs.length * k := by rw [ht, hlen]
  rw [List.length_take] at this
  rw [this])
 rw [← Q192 hk hk0] at h1
 exact h1
theorem sat.sortedK (hk : ∀ x, (enc x).length = k) (hk0 : 0 < k) (hs : sat R (own e k (some ⟨g, 0, none⟩) xs.length c (xs.flatMap enc) :: l) w) (hl : ys.length = xs.length) :
 sat R (own e k (some ⟨g, 0, none⟩) xs.length c (ys.flatMap enc) :: l) (sortWorldK enc k w g 0 n ys.toArray os) := by
 have hf : ∀ zs : List β, (zs.flatMap enc).length = zs.length * k := fun zs => by rw [← Q192 hk hk0]; simp
 obtain ⟨h, o, s⟩ := hs.head
 rcases o.2 with ⟨h0, _⟩ | ⟨g', cur, h1, hg, h3, h4, h5, h6⟩
 ·cases h0
 ·cases h1
  have hgw : w.heap[g]? = some (.cells cur e) := s g _ hg
  have hfl : flatK enc k ys.toArray = (ys.flatMap enc).toArray := by apply Array.ext'; rw [Q192 hk hk0]
  have hq : (ys.flatMap enc).length ≤ cur.size := by rw [hf, hl, h5]; exact Nat.mul_le_mul_right _ h3
  unfold sortWorldK putRowK
  rw [hfl]
  obtain ⟨A', c', hv, hs'⟩ := hs.grown (v' := .slice (some ⟨g, 0, none⟩) xs.length c) (m' := xs.length) (ys := ys.flatMap enc) (Q227 (enc := (id : Value → Value)) (n := n) (os := os) (ys.flatMap enc).toArray) (Nat.le_add_right _ _)
   ⟨by rw [hf, hl], .inr ⟨g, c, _, rfl, Nat.zero_le _, Q266 (enc := (id : Value → Value)) _ hgw, h3, h4, by simp [putCells, h5], by
    rw [← hl, ← hf]
    have := Q253 (enc := (id : Value → Value)) cur (ys.flatMap enc) hq
    rw [List.map_id] at this
    exact this⟩⟩ (.inl rfl)
  cases hv
  exact hs'
theorem sortk {P : Program} {ρ : Ren} (L : SlLaysF0.n6 P ρ) (hk : ∀ x, (enc x).length = k) (hk0 : 0 < k) (h1 : ∀ x, ∀ v ∈ enc x, v.oneCell' = true) (aE : ∀ w, (isAgg (ρ.t 24)).run P w = .ok true w) (zE : ∀ w, (Go.sizeOf (ρ.t 24)).run P w = .ok k w)
 (cf : β → β → Int) (hO : SWO (ltOf cf)) (hT : ∀ x y, (ltOf cf) x y = false → (ltOf cf) y x = false → x = y) (gf : Nat) (eg : ∀ args w, (callFunc gf args).run P w = .ok (.enter gf args) w) (hb : xs.length < 4611686018427387904)
 (hcmp : ∀ W : World, (∀ b o, b ≠ g → w.heap[b]? = some o → W.heap[b]? = some o) → ∀ x y, Calls P gf #[.agg (enc x).toArray, .agg (enc y).toArray] W fun e w' => e = .returned (.int .i64 (cf x y)) ∧ ∃ q os', w' = Sort.grow (W.drewN q) os')
 (hs : sat R (own e k (some ⟨g, 0, none⟩) xs.length c (xs.flatMap enc) :: l) w) :
 Calls P (ρ.f 6) #[.slice (some ⟨g, 0, none⟩) xs.length c, .func (.func gf) #[] #[]] w fun e' w' => e' = .returned (.tuple #[]) ∧ sat R (own e k (some ⟨g, 0, none⟩) xs.length c ((xs.mergeSort fun x y => !(ltOf cf) y x).flatMap enc) :: l) w' := by
 obtain ⟨h, o, s⟩ := hs.head
 rcases o.2 with ⟨h0, _⟩ | ⟨g', cur, h1', hg, h3, h4, h5, h6⟩
 ·cases h0
 ·cases h1'
  have hgw : w.heap[g]? = some (.cells cur e) := s g _ hg
  have hsz : xs.toArray.size = xs.length := by simp
  have hrun := AnyQ.slices_SortFunc_total L k aE zE enc hk h1 cf hO gf #[] g 0 c xs.toArray w eg (fun m os dk hdk x y => by
   have := hcmp (sortWorldK enc k w g 0 m dk os) (fun b o hb ho => by
    have hw := (Q227 (w := w) (enc := (id : Value → Value)) (g := g) (n := m) (os := os) (flatK enc k dk)).block b (Array.getElem?_eq_some_iff.1 ho).1 (fun e => hb (by cases e; rfl))
    exact hw.trans ho) x y
   simpa using this) (Q335 hk hk0 hgw h6) (Array.getElem?_eq_some_iff.1 hgw).1 (by rw [hsz]; exact hb) hT
  rw [hsz] at hrun
  refine hrun.mono fun e' w' ⟨he, m, os, hw⟩ => ⟨he, ?_⟩
  subst hw
  exact sat.sortedK hk hk0 hs (by simp)
end
section
variable {P : Program} {ρ : Ren} {α : Type}
theorem Q320 [Inhabited α] (L : SlLaysF0.n6 P ρ) (F : Fl α) (aE : ∀ w, (isAgg (ρ.t 24)).run P w = .ok true w) (zE : ∀ w, (Go.sizeOf (ρ.t 24)).run P w = .ok F.sz w)
 (cf : α → α → Int) (hO : SWO (ltOf cf)) (hT : ∀ x y, (ltOf cf) x y = false → (ltOf cf) y x = false → x = y) (gf : Nat) (eg : ∀ args w, (callFunc gf args).run P w = .ok (.enter gf args) w)
 (hcmp : ∀ R x y, Spec P gf [.agg (F.enc x).toArray, .agg (F.enc y).toArray] R [] (fun v l' => v = .int .i64 (cf x y) ∧ [] = l')) (R : Res) (l : List HProp) {e n c : Nat} {A : Option Addr} {xs : List α} (hb : xs.length < 4611686018427387904) :
 Spec P (ρ.f 6) [.slice A n c, .func (.func gf) #[] #[]] R (row F e A n c xs :: l) (fun v l' => v = .tuple #[] ∧ row F e A n c (xs.mergeSort fun x y => !(ltOf cf) y x) :: l = l') := fun w hs => by
 have hn : xs.length = n := let ⟨_, o, _⟩ := hs.head; Q97 o
 subst hn
 obtain ⟨h, o, s⟩ := hs.head
 rcases o.2 with ⟨rfl, h0, rfl⟩ | ⟨g, cur, rfl, hg, h3, h4, h5, h6⟩
 ·have hx : xs = [] := List.eq_nil_of_length_eq_zero h0
  subst hx
  refine (AnyF.slices_SortFunc_none L none 0 _ w).mono fun e' w' ⟨he, hw⟩ => ⟨_, _, he, ⟨rfl, rfl⟩, ?_⟩
  subst hw
  simpa using hs
 ·refine (sortk L F.len F.pos F.one aE zE cf hO hT gf eg hb (fun W _ x y => (hcmp _ x y).reads) hs).mono fun e' w' ⟨he, h7⟩ => ⟨_, _, he, ⟨rfl, rfl⟩, ?_⟩
  have : (xs.mergeSort fun x y => !(ltOf cf) y x).length = xs.length := by simp
  exact h7.imp fun h o => o
theorem Q322 (L : SlLaysF0.n6 P ρ) (T : Ow α) (aE : ∀ w, (isAgg (ρ.t 24)).run P w = .ok true w) (zE : ∀ w, (Go.sizeOf (ρ.t 24)).run P w = .ok T.sz w)
 (cf : α → α → Int) (hO : SWO (ltOf cf)) (gf : Nat) (eg : ∀ args w, (callFunc gf args).run P w = .ok (.enter gf args) w)
 (hcmp : ∀ R x y cs cs', T.rep.K R.heap x cs → T.rep.K R.heap y cs' → Spec P gf [.agg cs.toArray, .agg cs'.toArray] R [] (fun v l' => v = .int .i64 (cf x y) ∧ [] = l')) (R : Res) (l : List HProp) {e n c : Nat} {A : Option Addr} {xs : List α} (hb : xs.length < 4611686018427387904)
 (hT : xs.Pairwise fun x y => ¬ ((ltOf cf) x y = false ∧ (ltOf cf) y x = false)) :
 Spec P (ρ.f 6) [.slice A n c, .func (.func gf) #[] #[]] R (Bw.grow T e A n c xs :: l) (fun v l' => v = .tuple #[] ∧ Bw.grow T e A n c (xs.mergeSort fun x y => !(ltOf cf) y x) :: l = l') := fun w hs => by
 have hn : xs.length = n := let ⟨_, o, _⟩ := hs.head; (Q169 o).1
 subst hn
 obtain ⟨css, hbl, h2⟩ := sat.grow.1 hs
 rw [← hbl] at h2
 obtain ⟨h, o, s⟩ := h2.head
 rcases o.2 with ⟨rfl, h0, rfl⟩ | ⟨g, cur, rfl, hg, h3, h4, h5, h6⟩
 ·have hx : xs = [] := List.eq_nil_of_length_eq_zero (hbl.symm.trans h0)
  subst hx
  refine (AnyF.slices_SortFunc_none L none 0 _ w).mono fun e' w' ⟨he, hw⟩ => ⟨_, _, he, ⟨rfl, rfl⟩, ?_⟩
  subst hw
  simpa using hs
 ·by_cases hne : xs.length = 0
  ·have : xs = [] := List.eq_nil_of_length_eq_zero hne
   subst this
   refine (AnyF.slices_SortFunc_none L (some ⟨g, 0, none⟩) c _ w).mono fun e' w' ⟨he, hw⟩ => ⟨_, _, he, ⟨rfl, rfl⟩, ?_⟩
   subst hw
   simpa using hs
  have hpos : 0 < xs.length := Nat.pos_of_ne_zero hne
  have hinh : Inhabited (Fin xs.length) := ⟨⟨0, hpos⟩⟩
  let ci : Fin xs.length → Raw T.sz := fun i => css[i.1]'(by rw [hbl]; exact i.2)
  let enc : Fin xs.length → List Value := fun i => (ci i).1
  let cf' : Fin xs.length → Fin xs.length → Int := fun i j => cf xs[i.1] xs[j.1]
  have hO' : SWO (ltOf cf') := ⟨fun x => hO.irrefl _, fun x y z => hO.trans _ _ _, fun x y z => hO.ntrans _ _ _⟩
  have hT' : ∀ x y, ltOf cf' x y = false → ltOf cf' y x = false → x = y := fun x y h1 h2 => by
   have hp := List.pairwise_iff_getElem.1 hT
   rcases Nat.lt_trichotomy x.1 y.1 with h3 | h3 | h3
   ·exact absurd ⟨h1, h2⟩ (hp x.1 y.1 x.2 y.2 h3)
   ·exact Fin.ext h3
   ·exact absurd ⟨h2, h1⟩ (hp y.1 x.1 y.2 x.2 h3)
  have hcss : css = (List.finRange xs.length).map ci := by
   apply List.ext_getElem
   ·simp [hbl]
   ·intro i h1 h2
    simp [ci]
  have hfl : css.flatMap (Fl.raw T.sz T.pos).enc = (List.finRange xs.length).flatMap enc := by
   rw [hcss, List.flatMap_map]
   rfl
  have hgins : gins T xs css = (List.finRange xs.length).map fun i => T.own xs[i.1] (ci i).1 := by
   apply List.ext_getElem
   ·simp [gins, hbl]
   ·intro i h1 h2
    simp [gins, ci]
  have hlen : (List.finRange xs.length).length = css.length := by rw [List.length_finRange, hbl]
  have h2' : sat R (own e T.sz (some ⟨g, 0, none⟩) (List.finRange xs.length).length c ((List.finRange xs.length).flatMap enc) :: (gins T xs css ++ l)) w := by
   rw [hlen, ← hfl]; exact h2
  have hgw : w.heap[g]? = some (.cells cur e) := s g _ hg
  have hrun := sortk L (enc := enc) (fun x => (ci x).2.1) T.pos (fun x => (ci x).2.2) aE zE cf' hO' hT' gf eg (by simpa using hb) (fun W hW x y => by
   have hK : ∀ i : Fin xs.length, T.rep.K (wh W) xs[i.1] (ci i).1 := fun i => by
    obtain ⟨ok, k, ⟨k1, k2, ow, inn, dd, t1, t2⟩, dR, ss⟩ := h2
    obtain ⟨h', ro, sr⟩ := Q198 (Q104.1 inn).choose_spec.choose_spec.1 (Q233 (T := T) (xs := xs) (css := css) (i := i.1) (List.getElem?_eq_getElem i.2) (List.getElem?_eq_getElem (by rw [hbl]; exact i.2)))
    have s3 : Sub h' k2 := sr.trans (Q104.1 inn).choose_spec.choose_spec.2.2.2.1
    refine T.rd ro fun b ob hob => hW b ob (fun hbg => ?_) (ss b ob (t2 b ob (s3 b ob hob)))
    subst hbg
    have hgk : ∃ ob', k1 b = some ob' := by
     rcases ow.2 with ⟨e0, _⟩ | ⟨g2, cur2, e2, hg2, _⟩
     ·cases e0
     ·cases e2
      exact ⟨_, hg2⟩
    exact dd b _ _ hgk.choose_spec (s3 b ob hob)
   exact (hcmp (Res.of W) _ _ _ _ (hK x) (hK y)).reads) h2'
  rw [hlen, hbl] at hrun
  refine hrun.mono fun e' w' ⟨he, h7⟩ => ⟨_, _, he, ⟨rfl, rfl⟩, ?_⟩
  let ys := (List.finRange xs.length).mergeSort fun x y => !(ltOf cf') y x
  have hperm : ys.Perm (List.finRange xs.length) := List.mergeSort_perm _ _
  have hxs : (xs.mergeSort fun x y => !(ltOf cf) y x) = ys.map fun i => xs[i.1] := by
   show _ = ((List.finRange xs.length).mergeSort fun x y => !(ltOf cf') y x).map fun i => xs[i.1]
   rw [List.map_mergeSort (r := fun x y => !(ltOf cf') y x) (s := fun x y => !(ltOf cf) y x) (f := fun i : Fin xs.length => xs[i.1]) (fun a _ b _ => rfl)]
   congr 1
   apply List.ext_getElem
   ·simp
   ·intro i h1 h2
    simp
  rw [hxs]
  refine sat.grow.2 ⟨ys.map ci, by simp, ?_⟩
  have e1 : (ys.map ci).flatMap (Fl.raw T.sz T.pos).enc = ys.flatMap enc := by rw [List.flatMap_map]; rfl
  have e2 : gins T (ys.map fun i => xs[i.1]) (ys.map ci) = ys.map fun i => T.own xs[i.1] (ci i).1 := by
   apply List.ext_getElem
   ·simp [gins]
   ·intro i h1 h2
    simp [gins]
  have h8 : sat R (own e T.sz (some ⟨g, 0, none⟩) xs.length c (ys.flatMap enc) :: (gins T xs css ++ l)) w' := h7
  rw [e2]
  rw [hgins] at h8
  obtain ⟨ok, k, ⟨k1, k2, a, b, d, t1, t2⟩, dR, ss⟩ := h8
  refine ⟨ok, k, ⟨k1, k2, ?_, Q317 (hperm.symm.map _) b, d, t1, t2⟩, dR, ss⟩
  show own e T.sz (some ⟨g, 0, none⟩) xs.length c ((ys.map ci).flatMap (Fl.raw T.sz T.pos).enc) k1
  rw [e1]
  exact a
end
def gcf {α : Type} (c : α → α → Option Int) (x y : α) : Int := (c x y).getD 0
def CmpSwo {α : Type} (c : α → α → Option Int) : Prop := (∀ x y, (c x y).isSome = true) ∧ SWO (ltOf (gcf c))
def CmpTot {α : Type} (c : α → α → Option Int) : Prop := CmpSwo c ∧ ∀ x y, ltOf (gcf c) x y = false → ltOf (gcf c) y x = false → x = y
def CmpParts {α : Type} (c : α → α → Option Int) (xs : List α) : Prop := xs.Pairwise fun x y => ¬ (ltOf (gcf c) x y = false ∧ ltOf (gcf c) y x = false)
def byCmp {α : Type} (c : α → α → Option Int) (xs : List α) : List α := xs.mergeSort fun x y => !(ltOf (gcf c)) y x
theorem gcf_eq {α : Type} {c : α → α → Option Int} (h : CmpSwo c) (x y : α) : c x y = some (gcf c x y) := by
 have := h.1 x y
 unfold gcf
 cases hc : c x y with
 | none => rw [hc] at this; cases this
 | some v => rfl
end Go.Bw
