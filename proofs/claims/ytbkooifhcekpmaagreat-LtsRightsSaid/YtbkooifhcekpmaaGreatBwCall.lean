/- Contracts of functions: how a body is entered and left, how a call is met; loops as plain functions. Conditions: none. -/
import Derived.Test.YtbkooifhcekpmaaGreatBwRd
set_option linter.unusedVariables false
set_option linter.unusedSimpArgs false
set_option linter.unusedSectionVars false
namespace Go.Bw
open Go Go.RowKit

/-! ### Plain partial functions -/
theorem ite_some {c : Prop} [Decidable c] {α : Type} {x y : Option α} {r : α} (h : (if c then x else y) = some r) : (c ∧ x = some r) ∨ (¬ c ∧ y = some r) := by
  split at h
  · rename_i hc; exact .inl ⟨hc, h⟩
  · rename_i hc; exact .inr ⟨hc, h⟩
theorem ite_none {c : Prop} [Decidable c] {α : Type} {x : Option α} {r : α} (h : (if c then x else none) = some r) : c ∧ x = some r := by
  split at h
  · rename_i hc; exact ⟨hc, h⟩
  · cases h
theorem bind_some' {α β : Type} {x : Option α} {f : α → Option β} {r : β} (h : x.bind f = some r) : ∃ t, x = some t ∧ f t = some r := by
  cases x with
  | none => cases h
  | some t => exact ⟨t, rfl, h⟩
/-- Rounds: 'body' tells the next round's start, or the end. -/
def iterN {σ ρ : Type} (body : σ → Option (σ ⊕ ρ)) : Nat → σ → Option ρ
  | 0, _ => none
  | n + 1, s => match body s with
    | none => none
    | some (.inl s') => iterN body n s'
    | some (.inr r) => some r
theorem iterN_mono {σ ρ : Type} {body : σ → Option (σ ⊕ ρ)} : ∀ {n : Nat} {s : σ} {r : ρ}, iterN body n s = some r → iterN body (n + 1) s = some r
  | 0, _, _, h => by cases h
  | n + 1, s, r, h => by
    unfold iterN at h ⊢
    split at h
    · cases h
    · exact iterN_mono h
    · exact h
theorem iterN_le {σ ρ : Type} {body : σ → Option (σ ⊕ ρ)} {n m : Nat} (hnm : n ≤ m) {s : σ} {r : ρ} (h : iterN body n s = some r) : iterN body m s = some r := by
  induction hnm with
  | refl => exact h
  | step _ ih => exact iterN_mono ih
open Classical in
noncomputable def iter {σ ρ : Type} (body : σ → Option (σ ⊕ ρ)) (s : σ) : Option ρ := if h : ∃ n r, iterN body n s = some r then some h.choose_spec.choose else none
theorem iter_some {σ ρ : Type} {body : σ → Option (σ ⊕ ρ)} {s : σ} {r : ρ} : iter body s = some r ↔ ∃ n, iterN body n s = some r := by
  unfold iter
  constructor
  · intro h
    split at h
    · rename_i hx
      refine ⟨hx.choose, ?_⟩
      rw [← h]
      exact hx.choose_spec.choose_spec
    · cases h
  · rintro ⟨n, h⟩
    have hx : ∃ n r, iterN body n s = some r := ⟨n, r, h⟩
    rw [dif_pos hx]
    have h2 := hx.choose_spec.choose_spec
    have h3 := iterN_le (Nat.le_max_left hx.choose n) h2
    have h4 := iterN_le (Nat.le_max_right hx.choose n) h
    rw [h3] at h4
    exact h4
theorem iter_eq {σ ρ : Type} (body : σ → Option (σ ⊕ ρ)) (s : σ) : iter body s = (body s).bind fun | .inl s' => iter body s' | .inr r => some r := by
  apply Option.ext
  intro r
  rw [iter_some]
  constructor
  · rintro ⟨n, h⟩
    cases n with
    | zero => cases h
    | succ n =>
      unfold iterN at h
      split at h
      · cases h
      · rename_i s' hb; rw [hb]; exact iter_some.2 ⟨n, h⟩
      · rename_i r' hb; rw [hb]; exact h
  · intro h
    obtain ⟨t, ht, h⟩ := bind_some' h
    cases t with
    | inl s' =>
      obtain ⟨n, hn⟩ := iter_some.1 h
      exact ⟨n + 1, by unfold iterN; rw [ht]; exact hn⟩
    | inr r' => exact ⟨1, by unfold iterN; rw [ht]; exact h⟩

/-! ### Bools -/
theorem nt {b : Bool} (h : b = false) : (!b) = true := by rw [h]; rfl
theorem nf {b : Bool} (h : b = true) : (!b) = false := by rw [h]; rfl
theorem bn {b : Bool} (h : ¬ b = true) : b = false := by cases b <;> simp_all

/-! ### Contracts -/
structure Callee (P : Program) (f : Nat) : Prop where
  ok : ∃ fn, P.funcs[f]? = some fn ∧ (fn.name == "runtime.NumGoroutine") = false ∧ fn.body.isNone = false
abbrev Post := Value → List HProp → Prop
def Spec (P : Program) (f : Nat) (args : List Value) (R : Res) (l : List HProp) (post : Post) : Prop :=
  ∀ w, sat R l w → Calls P f args.toArray w fun e w' => ∃ v l', e = .returned v ∧ post v l' ∧ sat R l' w'
def envA : Nat → List Value → List (Nat × Value)
  | _, [] => []
  | k, v :: r => (k, v) :: envA (k + 1) r
theorem look_envA : ∀ {l : List Value} {k t : Nat} {v : Value}, look (envA k l) t = some v → ∃ j, t = k + j ∧ l[j]? = some v
  | [], _, _, _, h => by cases h
  | u :: r, k, t, v, h => by
    unfold envA look at h
    split at h
    · rename_i hb
      have : k = t := Nat.eq_of_beq_eq_true hb
      cases h
      exact ⟨0, by omega, rfl⟩
    · obtain ⟨j, hj, hv⟩ := look_envA h
      exact ⟨j + 1, by omega, by simpa using hv⟩
def PostB (P : Program) (fn : Func) (R : Res) (post : Post) : Exit → Act → World → Prop := bodyPost P fn fun e w' => ∃ v l', e = .returned v ∧ post v l' ∧ sat R l' w'
theorem Spec.of {P : Program} {f : Nat} {fn : Func} {c : Code} {args : List Value} {R : Res} {l : List HProp} {post : Post} (hf : P.funcs[f]? = some fn) (hb : fn.body = some c) (hn : Nat.ble args.length fn.ntmps = true)
    (h : At fn.ntmps [] R (envA 0 args) l (c.wp P (PostB P fn R post))) : Spec P f args R l post := fun w hs => by
  refine calls_of_wp hf hb (h _ w ⟨?_, rfl, fun t v hv => ?_⟩ hs)
  · have : args.length ≤ fn.ntmps := by simpa using hn
    simp; omega
  · obtain ⟨j, rfl, hj⟩ := look_envA hv
    show (args.toArray ++ Array.replicate _ undef).getD (0 + j) undef = v
    have hlt := (List.getElem?_eq_some_iff.1 hj).1
    rw [Nat.zero_add, Array.getD_eq_getD_getElem?, Array.getElem?_append_left (by simpa using hlt), List.getElem?_toArray, hj]
    rfl
section
variable {P : Program} [Tys P] {os : List Oper} {Q : Exit → Act → World → Prop} {rest : List Oper} {n : Nat} {ds : List Deferred} {R : Res} {env : List (Nat × Value)} {l l' : List HProp} {K : Act → World → Prop}
variable {d ty : Nat} {pos : String} {af : Array Edge} {g : Option (Nat × Bool)}
theorem run_callFunc {f : Nat} (c : Callee P f) (args : Array Value) (w : World) : (callFunc f args).run P w = .ok (.enter f args) w := by
  obtain ⟨fn, h1, h2, h3⟩ := c.ok
  simp only [callFunc, Sem.run_bind, run_program, Result.andThen, h1, h2, Bool.false_eq_true, if_false, h3, Sem.run_pure]
theorem execOp_call {a : Act} {w : World} {x : Operand} {xs : List Operand} {ts : Array Nat} {f : Nat} {cap : List Value} {vs : List Value} {dd : Option Nat} (e : Env n ds env a)
    (hx : ev env x = some (.func (.func f) #[] cap.toArray)) (hv : vals env xs = some vs) (c : Callee P f) :
    (execOp a.eval ⟨dd, .call ⟨.value x, xs.toArray, ts⟩, ty, pos, af, g⟩).run P w = .ok (.enter f (vs ++ cap).toArray) w := by
  have := vals_ok e hv
  simp [execOp, resolve, Deferred.ofValue, invoke, e.ev hx, run_callFunc c, this]
/-- A call met by its contract. -/
theorem At.call (hg : grd os env g = some true) {x : Operand} {xs : List Operand} {ts : Array Nat} {f : Nat} {cap : List Value} {vs : List Value} {post : Post} (c : Callee P f)
    (hx : ev env x = some (.func (.func f) #[] cap.toArray)) (hv : vals env xs = some vs) (hd : Nat.blt d n = true)
    (s : Spec P f (vs ++ cap) R l post) (h : ∀ v l', post v l' → At n ds R ((d, v) :: env) l' (wpList P os.toArray Q rest)) :
    At n ds R env l (wpList P os.toArray Q (⟨some d, .call ⟨.value x, xs.toArray, ts⟩, ty, pos, af, g⟩ :: rest)) := fun a w e hs => by
  refine wpList_step fun K hK => ?_
  rw [if_pos (grd_ok e hg)]
  unfold Oper.wp
  rw [execOp_call e hx hv c, Oper.upon_enter]
  refine (s w hs).mono fun e' w' ⟨v, l', he, hp, hs'⟩ => ?_
  subst he
  exact hK _ _ (h v l' hp _ _ (e.put hd v) hs')
/-- .. in a region that draws its order: the callee hands back one value, and what there was stands. -/
theorem At.Quiet.call (hg : grd os env g = some true) {x : Operand} {xs : List Operand} {ts : Array Nat} {f : Nat} {cap : List Value} {vs : List Value} {v : Value} {post : Post} (c : Callee P f)
    (hx : ev env x = some (.func (.func f) #[] cap.toArray)) (hv : vals env xs = some vs) (hd : Nat.blt d n = true)
    (s : Spec P f (vs ++ cap) R l post) (hp : ∀ v' l', post v' l' → v' = v ∧ ∀ w, sat R l' w → sat R l w) (k : At.Quiet P n ds R ((d, v) :: env) l os rest K) :
    At.Quiet P n ds R env l os (⟨some d, .call ⟨.value x, xs.toArray, ts⟩, ty, pos, af, g⟩ :: rest) K := fun a e => by
  refine wpQuiet_step fun K' hK => ?_
  rw [if_pos (grd_ok e hg)]
  refine ⟨v, fun w hs => ?_, hK _ (k _ (e.put hd v))⟩
  unfold Oper.quietAt
  rw [execOp_call e hx hv c]
  refine ⟨rfl, (s w hs).mono fun e' w' ⟨v', l', he, hq, hs'⟩ => ?_⟩
  obtain ⟨rfl, h2⟩ := hp v' l' hq
  exact ⟨he, h2 w' hs'⟩

/-! ### The end of a body -/
theorem run_results0 {fn : Func} (h : fn.results = #[]) (a : Act) (w : World) : (results fn a.tmps).run P w = .ok (.tuple #[]) w := by simp [results, h]
theorem At.fin {fn : Func} {post : Post} {x : Exit} (hx : x = .ret ∨ x = .normal) (h : At n [] R env l (fun a w => ∃ v l', (results fn a.tmps).run P w = .ok v w ∧ post v l' ∧ sat R l' w)) : At n [] R env l (PostB P fn R post x) := fun a w e hs => by
  obtain ⟨v, l', hr, hp, hs'⟩ := h a w e hs
  rcases hx with rfl | rfl <;> exact ⟨e.defs, v, hr, v, l', rfl, hp, hs'⟩
def resV (env : List (Nat × Value)) : List ResultVar → Option (List Value)
  | [] => some []
  | .tmp t :: r => match look env t, resV env r with
    | some v, some vs => some (v :: vs)
    | _, _ => none
  | .cell _ _ :: _ => none
def resT : List Value → Value
  | [v] => v
  | vs => .tuple vs.toArray
def resF (tmps : Array Value) : ResultVar → Sem Value
  | .tmp t => pure (tmps.getD t undef)
  | .cell b t => do loadVar t (← asAddr (tmps.getD b undef))
theorem results_eq (fn : Func) (tmps : Array Value) : results fn tmps = (do let vs ← fn.results.mapM (resF tmps); pure (if h : vs.size = 1 then vs[0] else .tuple vs)) := by
  unfold results
  congr 1
theorem mapM_res {a : Act} {w : World} (e : Env n ds env a) : ∀ {r : List ResultVar} {vs : List Value}, resV env r = some vs → (r.mapM (resF a.tmps)).run P w = .ok vs w
  | [], vs, h => by cases h; rfl
  | .tmp t :: r, vs, h => by
    unfold resV at h
    split at h
    · rename_i v vs' hv hvs
      cases h
      have h1 : a.tmps.getD t undef = v := e.get _ _ hv
      simp only [List.mapM_cons, resF, h1, Sem.run_bind, Sem.run_pure, Result.andThen, mapM_res e hvs]
    · cases h
  | .cell b t :: r, vs, h => by cases h
theorem At.res {fn : Func} {post : Post} {x : Exit} {r : List ResultVar} {vs : List Value} (hx : x = .ret ∨ x = .normal) (hr : fn.results = r.toArray) (hv : resV env r = some vs) (hp : post (resT vs) l) : At n [] R env l (PostB P fn R post x) :=
  At.fin hx fun a w e hs => by
    refine ⟨_, l, ?_, hp, hs⟩
    have := mapM_res (P := P) (w := w) e hv
    rw [results_eq, hr, List.mapM_toArray]
    simp only [Sem.run_bind, Sem.run_map, this, Result.andThen, Sem.run_pure]
    cases vs with
    | nil => rfl
    | cons v vs =>
      cases vs with
      | nil => rfl
      | cons u vs => simp [resT]
end

/-! ### Rounds, told by a body -/
instance : Inhabited ByteArray := ⟨⟨#[]⟩⟩
def unr {σ ρ : Type} (f : σ → Option ρ) (x : Option (σ ⊕ ρ)) : Option ρ := x.bind fun | .inl s => f s | .inr r => some r
def nx {σ ρ : Type} (s : σ) : Option (σ ⊕ ρ) := some (.inl s)
def dn {σ ρ : Type} (o : ρ) : Option (σ ⊕ ρ) := some (.inr o)
section
variable {σ ρ α : Type} {f : σ → Option ρ} {r : ρ}
theorem unr_ite {c : Prop} [Decidable c] {x y : Option (σ ⊕ ρ)} : unr f (if c then x else y) = if c then unr f x else unr f y := by split <;> rfl
theorem unr_bind {x : Option α} {g : α → Option (σ ⊕ ρ)} : unr f (x.bind g) = x.bind fun t => unr f (g t) := by cases x <;> rfl
theorem unr_nx {s : σ} : unr f (nx s) = f s := rfl
theorem unr_none : unr f (none : Option (σ ⊕ ρ)) = none := rfl
theorem uite {c : Prop} [Decidable c] {x y : Option (σ ⊕ ρ)} (h : unr f (if c then x else y) = some r) : (c ∧ unr f x = some r) ∨ (¬ c ∧ unr f y = some r) := ite_some (by rw [unr_ite] at h; exact h)
theorem unone {c : Prop} [Decidable c] {x : Option (σ ⊕ ρ)} (h : unr f (if c then x else none) = some r) : c ∧ unr f x = some r := by
  rcases uite h with h | ⟨_, h⟩
  · exact h
  · cases h
theorem ubind {x : Option α} {g : α → Option (σ ⊕ ρ)} (h : unr f (x.bind g) = some r) : ∃ t, x = some t ∧ unr f (g t) = some r := bind_some' (by rw [unr_bind] at h; exact h)
theorem iterN_round {body : σ → Option (σ ⊕ ρ)} {m : Nat} {s : σ} (h : iterN body m s = some r) : ∃ m', m' < m ∧ unr (iterN body m') (body s) = some r := by
  cases m with
  | zero => cases h
  | succ m => exact ⟨m, Nat.lt_succ_self m, by unfold iterN at h; unfold unr; cases hb : body s with
    | none => rw [hb] at h; cases h
    | some x => rw [hb] at h; cases x <;> exact h⟩
end
section
variable {n : Nat} {ds : List Deferred} {R : Res} {env : List (Nat × Value)} {l : List HProp} {next : Act → World → Prop} {Q : Exit → Act → World → Prop} {id id' : Nat}
theorem At.thn (h : At n ds R env l next) : At n ds R env l (Exit.then next Q .normal) := h
theorem At.the (h : At n ds R env l (Q (.exit id))) : At n ds R env l (Exit.then next Q (.exit id)) := h
theorem At.thr (h : At n ds R env l (Q .ret)) : At n ds R env l (Exit.then next Q .ret) := h
theorem At.ibn (h : At n ds R env l (Q .normal)) : At n ds R env l (Exit.inBlock id Q .normal) := h
theorem At.ibr (h : At n ds R env l (Q .ret)) : At n ds R env l (Exit.inBlock id Q .ret) := h
theorem At.ibx (h : At n ds R env l (Q .normal)) : At n ds R env l (Exit.inBlock id Q (.exit id)) := fun a w e hs => by simpa [Exit.inBlock] using h a w e hs
theorem At.ibo (hn : Nat.beq id' id = false) (h : At n ds R env l (Q (.exit id'))) : At n ds R env l (Exit.inBlock id Q (.exit id')) := fun a w e hs => by
  have : id' ≠ id := by intro e; subst e; simp at hn
  simpa [Exit.inBlock, this] using h a w e hs
end


/-! ### What has been run, and what is left: 'M.bind G = some r' -/
def jn {σ ρ : Type} (x : Option (σ ⊕ ρ)) (f : σ → Option ρ) : Option ρ := x.bind fun | .inl s => f s | .inr o => some o
def up {σ ρ : Type} (x : Option ρ) : Option (σ ⊕ ρ) := x.bind fun o => some (.inr o)
def upL {σ τ ρ : Type} (x : Option ρ) : Option (σ ⊕ (τ ⊕ ρ)) := x.bind fun o => some (.inr (.inr o))
section
variable {σ τ ρ ω α : Type} {r : ω}
theorem jn_nx {s : σ} {f : σ → Option ρ} : jn (nx s) f = f s := rfl
theorem jn_inl {s : σ} {f : σ → Option ρ} : jn (some (.inl s)) f = f s := rfl
theorem jn_inr {o : ρ} {f : σ → Option ρ} : jn (some (.inr o)) f = some o := rfl
theorem jn_dn {o : ρ} {f : σ → Option ρ} : jn (dn o) f = some o := rfl
theorem jn_none {f : σ → Option ρ} : jn none f = none := rfl
theorem jn_up {x : Option ρ} {f : σ → Option ρ} : jn (up x) f = x := by cases x <;> rfl
theorem jn_ite {c : Prop} [Decidable c] {x y : Option (σ ⊕ ρ)} {f : σ → Option ρ} : jn (if c then x else y) f = if c then jn x f else jn y f := by split <;> rfl
theorem jn_bind {x : Option α} {g : α → Option (σ ⊕ ρ)} {f : σ → Option ρ} : jn (x.bind g) f = x.bind fun t => jn (g t) f := by cases x <;> rfl
theorem bite {c : Prop} [Decidable c] {x y : Option α} {G : α → Option ω} (h : (if c then x else y).bind G = some r) : (c ∧ x.bind G = some r) ∨ (¬ c ∧ y.bind G = some r) := by
  split at h
  · rename_i hc; exact .inl ⟨hc, h⟩
  · rename_i hc; exact .inr ⟨hc, h⟩
theorem bnone {c : Prop} [Decidable c] {x : Option α} {G : α → Option ω} (h : (if c then x else none).bind G = some r) : c ∧ x.bind G = some r := by
  rcases bite h with h | ⟨_, h⟩
  · exact h
  · cases h
theorem bbind {x : Option τ} {g : τ → Option α} {G : α → Option ω} (h : (x.bind g).bind G = some r) : ∃ t, x = some t ∧ (g t).bind G = some r := by
  cases x with
  | none => cases h
  | some t => exact ⟨t, rfl, h⟩
theorem bjoin {x : Option (σ ⊕ ρ)} {f : σ → Option ρ} {G : ρ → Option ω} (h : (jn x f).bind G = some r) :
    ∃ G1 : σ ⊕ ρ → Option ω, (∀ s, G1 (.inl s) = (f s).bind G) ∧ (∀ o, G1 (.inr o) = G o) ∧ x.bind G1 = some r := by
  refine ⟨fun | .inl s => (f s).bind G | .inr o => G o, fun _ => rfl, fun _ => rfl, ?_⟩
  unfold jn at h
  cases x with
  | none => cases h
  | some v => cases v <;> exact h
theorem bsome {x : Option α} {G : α → Option ω} (h : x.bind G = some r) : ∃ t, x = some t ∧ G t = some r := bind_some' h
theorem bup {M : Option ρ} {G1 : σ ⊕ ρ → Option ω} {G : ρ → Option ω} (hr : ∀ o, G1 (.inr o) = G o) (h : (up M : Option (σ ⊕ ρ)).bind G1 = some r) : M.bind G = some r := by
  cases M with
  | none => cases h
  | some v => exact (hr v).symm.trans h
theorem bret {v : ω} (h : (some v).bind some = some r) : r = v := (Option.some.inj h).symm
theorem brun {x : Option ω} (h : x = some r) : x.bind some = some r := by rw [h]; rfl
def stp {σ ρ : Type} (f : σ → Option ρ) : σ ⊕ ρ → Option ρ
  | .inl s => f s
  | .inr v => some v
theorem bit {body : σ → Option (σ ⊕ ρ)} {m : Nat} {s : σ} {o : ρ} (h : iterN body m s = some o) : ∃ m' f, m' < m ∧ (∀ s, f s = iterN body m' s) ∧ (body s).bind (stp f) = some o := by
  obtain ⟨m', h1, h2⟩ := iterN_round h
  refine ⟨m', iterN body m', h1, fun _ => rfl, ?_⟩
  unfold unr at h2
  cases hb : body s with
  | none => rw [hb] at h2; cases h2
  | some v => rw [hb] at h2; cases v <;> exact h2
theorem bnx {f g : σ → Option ρ} {s : σ} {o : ρ} (hf : ∀ s, f s = g s) (h : (nx s : Option (σ ⊕ ρ)).bind (stp f) = some o) : g s = some o := (hf s).symm.trans h
theorem bdn {f : σ → Option (τ ⊕ ρ)} {p o : τ ⊕ ρ} {G1 : τ ⊕ ρ → Option ω} (h : (dn p : Option (σ ⊕ (τ ⊕ ρ))).bind (stp f) = some o) (ho : G1 o = some r) : G1 p = some r := by
  have : p = o := Option.some.inj h
  rw [this]; exact ho
theorem bupL {f : σ → Option (τ ⊕ ρ)} {M : Option ρ} {o : τ ⊕ ρ} {G1 : τ ⊕ ρ → Option ω} {G : ρ → Option ω} (hr : ∀ o, G1 (.inr o) = G o) (ho : G1 o = some r)
    (h : (upL M : Option (σ ⊕ (τ ⊕ ρ))).bind (stp f) = some o) : M.bind G = some r := by
  cases M with
  | none => cases h
  | some v =>
    have : (.inr v : τ ⊕ ρ) = o := Option.some.inj h
    rw [← this] at ho
    exact (hr v).symm.trans ho
end
section
variable {P : Program} {n : Nat} {ds : List Deferred} {R : Res} {env : List (Nat × Value)} {l : List HProp} {K K1 next : Act → World → Prop} {Q : Exit → Act → World → Prop} {os rest : List Oper}
/-- Where ways meet again. -/
theorem At.join {X : Type} (E : X → List (Nat × Value)) (L : X → List HProp) (I : X → Prop) {c : Code} (J : ∀ x, I x → At n ds R (E x) (L x) next) (h : (∀ x, I x → At n ds R (E x) (L x) next) → At n ds R env l (c.wp P (Exit.then next Q))) :
    At n ds R env l (c.wp P (Exit.then next Q)) := h J
theorem At.joinO (k : Nat) {X : Type} (E : X → List (Nat × Value)) (L : X → List HProp) (I : X → Prop) (J : ∀ x, I x → At n ds R (E x) (L x) (wpList P os.toArray Q (rest.drop k)))
    (h : (∀ x, I x → At n ds R (E x) (L x) (wpList P os.toArray Q (rest.drop k))) → At n ds R env l (wpList P os.toArray Q rest)) : At n ds R env l (wpList P os.toArray Q rest) := h J
theorem At.Still.joinO (k : Nat) {X : Type} (E : X → List (Nat × Value)) (L : X → List HProp) (I : X → Prop) (J : ∀ x, I x → At.Still P n ds R (E x) (L x) os (rest.drop k) K)
    (h : (∀ x, I x → At.Still P n ds R (E x) (L x) os (rest.drop k) K) → At.Still P n ds R env l os rest K) : At.Still P n ds R env l os rest K := h J
theorem At.Quiet.joinO (k : Nat) {X : Type} (E : X → List (Nat × Value)) (L : X → List HProp) (I : X → Prop) (J : ∀ x, I x → At.Quiet P n ds R (E x) (L x) os (rest.drop k) K)
    (h : (∀ x, I x → At.Quiet P n ds R (E x) (L x) os (rest.drop k) K) → At.Quiet P n ds R env l os rest K) : At.Quiet P n ds R env l os rest K := h J
theorem At.Still.sub {env' : List (Nat × Value)} (s : SubEnv env env') (h : At.Still P n ds R env' l os rest K) : At.Still P n ds R env l os rest K := fun a w e hs => h a w (e.sub s) hs
theorem At.Quiet.sub {env' : List (Nat × Value)} (s : SubEnv env env') (h : At.Quiet P n ds R env' l os rest K) : At.Quiet P n ds R env l os rest K := fun a e => h a (e.sub s)
theorem At.loopJ {X Y : Type} {c : Code} {e0 : Nat} (E : X → List (Nat × Value)) (L : X → List HProp) (I : Nat → X → Prop) (m : Nat) (x : X) (hx : I m x) (EY : Y → List (Nat × Value)) (LY : Y → List HProp) (IY : Y → Prop)
    (h0 : At n ds R env l (fun a w => Env n ds (E x) a ∧ sat R (L x) w)) (J : ∀ y, IY y → At n ds R (EY y) (LY y) (Q (.exit e0)))
    (round : (∀ y, IY y → At n ds R (EY y) (LY y) (Q (.exit e0))) → ∀ m x, I m x → At n ds R (E x) (L x) (c.wp P (Exit.then (fun a w => ∃ m' x', m' < m ∧ I m' x' ∧ Env n ds (E x') a ∧ sat R (L x') w) Q))) :
    At n ds R env l ((Code.loop c).wp P Q) := At.loop E L I m x hx h0 (round J)
end
end Go.Bw
