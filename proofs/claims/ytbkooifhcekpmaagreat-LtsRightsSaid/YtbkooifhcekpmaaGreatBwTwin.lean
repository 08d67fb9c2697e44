/- Models that can be computed: with a bound on the rounds; what they say the models say. Conditions: none. -/
import Derived.Test.YtbkooifhcekpmaaGreatBwMapR
import Derived.Test.YtbkooifhcekpmaaGreatBwSortK
set_option linter.unusedVariables false
set_option linter.unusedSimpArgs false
set_option linter.unusedSectionVars false
namespace Go.Bw
open Go Go.RowKit

def Ap {α : Type} (a b : Option α) : Prop := ∀ r, a = some r → b = some r
section
variable {α β σ τ ρ : Type}
theorem Ap.refl (a : Option α) : Ap a a := fun _ h => h
theorem Ap.none {b : Option α} : Ap Option.none b := fun _ h => by cases h
theorem Ap.bind {a b : Option α} {f g : α → Option β} (h : Ap a b) (k : ∀ t, Ap (f t) (g t)) : Ap (a.bind f) (b.bind g) := fun r e => by
  cases ha : a with
  | none => rw [ha] at e; cases e
  | some t => rw [ha] at e; rw [h t ha]; exact k t r e
theorem Ap.ite {c : Prop} [i : Decidable c] [j : Decidable c] {a b a' b' : Option α} (h : Ap a a') (k : Ap b b') : Ap (@_root_.ite _ c i a b) (@_root_.ite _ c j a' b') := fun r e => by
  by_cases hc : c
  · rw [if_pos hc] at e ⊢; exact h r e
  · rw [if_neg hc] at e ⊢; exact k r e
theorem Ap.jn {a b : Option (σ ⊕ ρ)} {f g : σ → Option ρ} (h : Ap a b) (k : ∀ t, Ap (f t) (g t)) : Ap (Bw.jn a f) (Bw.jn b g) := fun r e => by
  cases ha : a with
  | none => rw [ha] at e; cases e
  | some t =>
    rw [ha] at e
    rw [h t ha]
    cases t with
    | inl s => exact k s r e
    | inr o => exact e
theorem Ap.up {a b : Option ρ} (h : Ap a b) : Ap (Bw.up a : Option (σ ⊕ ρ)) (Bw.up b) := fun r e => by
  cases ha : a with
  | none => rw [ha] at e; cases e
  | some t => rw [ha] at e; rw [h t ha]; exact e
theorem Ap.upL {a b : Option ρ} (h : Ap a b) : Ap (Bw.upL a : Option (σ ⊕ (τ ⊕ ρ))) (Bw.upL b) := fun r e => by
  cases ha : a with
  | none => rw [ha] at e; cases e
  | some t => rw [ha] at e; rw [h t ha]; exact e
def iterC (fu : Nat) (body : σ → Option (σ ⊕ ρ)) (s : σ) : Option ρ := iterN body fu s
theorem iterN_ap {f g : σ → Option (σ ⊕ ρ)} (h : ∀ s, Ap (f s) (g s)) : ∀ {n : Nat} {s : σ}, Ap (iterN f n s) (iterN g n s)
  | 0, _ => fun _ e => by cases e
  | n + 1, s => fun r e => by
    unfold iterN at e ⊢
    cases hf : f s with
    | none => rw [hf] at e; cases e
    | some t =>
      rw [hf] at e
      rw [h s t hf]
      cases t with
      | inl s' => exact iterN_ap h r e
      | inr o => exact e
theorem Ap.iter {fu : Nat} {f g : σ → Option (σ ⊕ ρ)} {s : σ} (h : ∀ s, Ap (f s) (g s)) : Ap (iterC fu f s) (Bw.iter g s) := fun r e => iter_some.2 ⟨fu, iterN_ap h r e⟩
theorem foldO_ap {f g : σ → α → Option σ} (h : ∀ s x, Ap (f s x) (g s x)) : ∀ {xs : List α} {s : σ}, Ap (foldO f s xs) (foldO g s xs)
  | [], _ => fun _ e => e
  | x :: xs, s => Ap.bind (h s x) fun t => foldO_ap h
def orderedC (kvs : List α) (step : σ → α → Option σ) (s0 : σ) (out : σ → τ) (f : τ → Option β) : Option β := if kvs.length ≤ 1 then (foldO step s0 kvs).bind fun s => f (out s) else Option.none
theorem Ap.ordered {kvs : List α} {f g : σ → α → Option σ} {s0 : σ} {out : σ → τ} {p q : τ → Option β} (h : ∀ s x, Ap (f s x) (g s x)) (k : ∀ t, Ap (p t) (q t)) : Ap (orderedC kvs f s0 out p) (Bw.ordered kvs g s0 out q) := fun r e => by
  unfold orderedC at e
  split at e
  · rename_i hl
    refine anyOrder_some.2 fun ys hy => ?_
    have : ys = kvs := by
      match kvs, hl with
      | [], _ => exact hy.eq_nil
      | [x], _ => exact List.perm_singleton.1 hy
      | _ :: _ :: _, hl => simp at hl
    subst this
    exact Ap.bind (foldO_ap h) (fun t => k _) r e
  · cases e
def bseqC (x y : Bs) : Bool := decide (x = y)
theorem bseq_bseqC : bseq = bseqC := by
  funext x y
  unfold bseqC
  rw [Bool.eq_iff_iff, bseq_iff]
  simp
/-- A row that is sorted as it is. -/
def soloC (a : List α) : Option (List α) := if a.length ≤ 1 then some a else Option.none
theorem solo_mem {a r : List α} (h : soloC a = some r) : r = a ∧ (a = [] ∨ ∃ x, a = [x]) := by
  unfold soloC at h
  split at h
  · rename_i hl
    refine ⟨(Option.some.inj h).symm, ?_⟩
    match a, hl with
    | [], _ => exact .inl rfl
    | [x], _ => exact .inr ⟨x, rfl⟩
    | _ :: _ :: _, hl => simp at hl
  · cases h
end
end Go.Bw
