/- BuildPlaces, part 6: walks and plain laws. Conditions: none. -/
import Derived.Test.YtfbjkcnefhgodaaGreatDoorRows
import Derived.LaidMore
import Derived.ProofKit
import Derived.OpenShut
import Derived.Stop.Joined
import Derived.Test.YtfbjkcnefhgodaaGreatDoorBwBuildPlacesE
set_option linter.unusedVariables false
set_option linter.unusedSimpArgs false
set_option linter.unusedSectionVars false
set_option maxRecDepth 100000
set_option maxHeartbeats 2000000
namespace Go.Bw
open Go Go.RowKit Go.Sort Go.Proofs Go.Shelf
section
variable {α : Type}
def insL (le : α → α → Bool) (x : α) : List α → List α
 | [] => [x]
 | y :: ys => if le x y = true then x :: y :: ys else y :: insL le x ys
def insS (le : α → α → Bool) : List α → List α
 | [] => []
 | x :: xs => insL le x (insS le xs)
theorem Q187 (le : α → α → Bool) (x : α) : ∀ l : List α, (insL le x l).Perm (x :: l)
 | [] => List.Perm.refl _
 | y :: ys => by
  unfold insL
  split
  ·exact List.Perm.refl _
  ·exact ((Q187 le x ys).cons y).trans (List.Perm.swap x y ys)
theorem Q149 (le : α → α → Bool) : ∀ l : List α, (insS le l).Perm l
 | [] => List.Perm.refl _
 | x :: xs => (Q187 le x _).trans ((Q149 le xs).cons x)
def pwB (le : α → α → Bool) : List α → Bool
 | [] => true
 | x :: xs => xs.all (le x) && pwB le xs
theorem pwB_mem {le : α → α → Bool} : ∀ {a : List α}, pwB le a = true → a.Pairwise fun x y => le x y = true
 | [], _ => List.Pairwise.nil
 | x :: xs, e => by
  unfold pwB at e
  rw [Bool.and_eq_true, List.all_eq_true] at e
  exact List.Pairwise.cons e.1 (pwB_mem e.2)
theorem Q183 {le : α → α → Bool} (tr : ∀ a b c, le a b = true → le b c = true → le a c = true) (to : ∀ a b, (le a b || le b a) = true) {a r : List α} (an : ∀ x y, x ∈ a → y ∈ a → le x y = true → le y x = true → x = y) (hp : r.Perm a) (hr : r.Pairwise fun x y => le x y = true) :
 a.mergeSort le = r :=
 List.Perm.eq_of_pairwise (le := fun x y => le x y = true) (fun x y hx hy h1 h2 => an x y ((List.mergeSort_perm a le).subset hx) (hp.subset hy) h1 h2) (List.pairwise_mergeSort tr to a) hr ((List.mergeSort_perm a le).trans hp.symm)
def leC (c : α → α → Option Int) (x y : α) : Bool := match c y x with | some v => decide (0 ≤ v) | none => false
def sortC (c : α → α → Option Int) (a : List α) : Option (List α) := let r := insS (leC c) a; if pwB (leC c) r = true then some r else none
theorem leC_mem {c cc : α → α → Option Int} (h : ∀ x y, Ap (cc x y) (c x y)) {x y : α} (e : leC cc x y = true) : (!(ltOf (gcf c)) y x) = true := by
 unfold leC at e
 cases hc : cc y x with
 | none => rw [hc] at e; cases e
 | some v =>
  rw [hc] at e
  have hv := h y x v hc
  unfold ltOf gcf
  rw [hv]
  simpa using e
theorem swo_le {lt : α → α → Bool} (s : SWO lt) : (∀ a b c, (!lt b a) = true → (!lt c b) = true → (!lt c a) = true) ∧ ∀ a b, ((!lt b a) || (!lt a b)) = true := by
 refine ⟨fun a b c h1 h2 => ?_, fun a b => ?_⟩
 ·simp only [Bool.not_eq_true'] at *
  exact s.ntrans _ _ _ h2 h1
 ·cases h : lt b a with
  | false => rfl
  | true =>
   cases h2 : lt a b with
   | false => rfl
   | true => have := s.trans _ _ _ h h2; rw [s.irrefl] at this; cases this
theorem sort_mem {c cc : α → α → Option Int} (h : ∀ x y, Ap (cc x y) (c x y)) {a r : List α} (s : CmpSwo c) (an : ∀ x y, x ∈ a → y ∈ a → ltOf (gcf c) x y = false → ltOf (gcf c) y x = false → x = y) (e : sortC cc a = some r) : byCmp c a = r ∧ r.length = a.length := by
 unfold sortC at e
 dsimp only at e
 split at e
 ·rename_i hp
  obtain rfl := Option.some.inj e
  refine ⟨Q183 (swo_le s.2).1 (swo_le s.2).2 (fun x y hx hy h1 h2 => ?_) (Q149 _ _) ((pwB_mem hp).imp fun {x y} hxy => leC_mem h hxy), (Q149 _ _).length_eq⟩
  simp only [Bool.not_eq_true'] at h1 h2
  exact an x y hx hy h2 h1
 ·cases e
theorem sort_tot {c cc : α → α → Option Int} (h : ∀ x y, Ap (cc x y) (c x y)) {a r : List α} (s : CmpTot c) (e : sortC cc a = some r) : byCmp c a = r ∧ r.length = a.length := sort_mem h s.1 (fun x y _ _ => s.2 x y) e
end
def few2C {α : Type} (o : Option (List α)) : Option (List α) := o.bind fun a => if a.length ≤ 1000 then some a else none
theorem Q190 {α : Type} {o : Option (List α)} {r : List α} (h : few2C o = some r) : o = some r ∧ r.length ≤ 1000 := by
 unfold few2C at h
 cases o with
 | none => cases h
 | some a =>
  simp only [Option.bind_some] at h
  split at h
  ·rename_i hl
   obtain rfl := Option.some.inj h
   exact ⟨rfl, hl⟩
  ·cases h
def sortB (a : List Bs) : Option (List Bs) := some (insS (fun x y => decide (x ≤ y)) a)
def sortI (a : List Int) : Option (List Int) := some (insS (fun x y => decide (x ≤ y)) a)
section
variable {α : Type}
theorem insL_pw {le : α → α → Bool} (tr : ∀ a b c, le a b = true → le b c = true → le a c = true) (to : ∀ a b, (le a b || le b a) = true) (x : α) : ∀ {l : List α}, l.Pairwise (fun x y => le x y = true) → (insL le x l).Pairwise fun x y => le x y = true
 | [], _ => List.pairwise_singleton _ _
 | y :: ys, h => by
  unfold insL
  have h1 := List.pairwise_cons.1 h
  split
  ·rename_i hxy
   exact List.Pairwise.cons (fun z hz => (List.mem_cons.1 hz).elim (fun e => e ▸ hxy) fun hz => tr _ _ _ hxy (h1.1 z hz)) h
  ·rename_i hxy
   refine List.Pairwise.cons (fun z hz => ?_) (insL_pw tr to x h1.2)
   rcases List.mem_cons.1 ((Q187 le x ys).subset hz) with rfl | hz
   ·have := to z y; simp [hxy] at this; exact this
   ·exact h1.1 z hz
theorem Q178 {le : α → α → Bool} (tr : ∀ a b c, le a b = true → le b c = true → le a c = true) (to : ∀ a b, (le a b || le b a) = true) : ∀ (l : List α), (insS le l).Pairwise fun x y => le x y = true
 | [] => List.Pairwise.nil
 | x :: xs => insL_pw tr to x (Q178 tr to xs)
end
theorem sortI_eq {a r : List Int} (h : sortI a = some r) : (a.mergeSort fun x y => decide (x ≤ y)) = r ∧ r.length = a.length := by
 obtain rfl := Option.some.inj h
 have tr : ∀ a b c : Int, decide (a ≤ b) = true → decide (b ≤ c) = true → decide (a ≤ c) = true := fun a b c h1 h2 => by simp only [decide_eq_true_eq] at *; omega
 have to : ∀ a b : Int, (decide (a ≤ b) || decide (b ≤ a)) = true := fun a b => by simp; omega
 exact ⟨Q183 tr to (fun x y _ _ h1 h2 => by simp only [decide_eq_true_eq] at *; omega) (Q149 _ _) (Q178 tr to a), (Q149 _ _).length_eq⟩
theorem sortB_eq {a r : List Bs} (h : sortB a = some r) : (a.mergeSort fun x y => decide (x ≤ y)) = r ∧ r.length = a.length := by
 obtain rfl := Option.some.inj h
 have tr : ∀ a b c : Bs, decide (a ≤ b) = true → decide (b ≤ c) = true → decide (a ≤ c) = true := fun a b c h1 h2 => by simp only [decide_eq_true_eq] at *; exact List.le_trans h1 h2
 have to : ∀ a b : Bs, (decide (a ≤ b) || decide (b ≤ a)) = true := fun a b => by simp only [Bool.or_eq_true, decide_eq_true_eq]; exact List.le_total a b
 exact ⟨Q183 tr to (fun x y _ _ h1 h2 => by simp only [decide_eq_true_eq] at *; exact List.le_antisymm h1 h2) (Q149 _ _) (Q178 tr to a), (Q149 _ _).length_eq⟩
section
variable {α β σ τ : Type}
def insA (x : α) : List α → List (List α)
 | [] => [[x]]
 | y :: ys => (x :: y :: ys) :: (insA x ys).map (y :: ·)
def perms : List α → List (List α)
 | [] => [[]]
 | x :: xs => (perms xs).flatMap (insA x)
theorem Q232 (x : α) (b : List α) : ∀ a : List α, a ++ x :: b ∈ insA x (a ++ b)
 | [] => by cases b <;> simp [insA]
 | y :: a => by
  show y :: (a ++ x :: b) ∈ insA x (y :: (a ++ b))
  unfold insA
  exact List.mem_cons_of_mem _ (List.mem_map_of_mem (Q232 x b a))
theorem Q205 : ∀ {xs ys : List α}, ys.Perm xs → ys ∈ perms xs
 | [], ys, h => by rw [h.eq_nil]; simp [perms]
 | x :: xs, ys, h => by
  obtain ⟨a, b, rfl⟩ := List.append_of_mem (h.symm.subset List.mem_cons_self)
  have h2 : (a ++ b).Perm xs := (List.perm_middle.symm.trans h).cons_inv
  unfold perms
  exact List.mem_flatMap.2 ⟨a ++ b, Q205 h2, Q232 x b a⟩
def orderedP [DecidableEq β] (kvs : List α) (step : σ → α → Option σ) (s0 : σ) (out : σ → τ) (f : τ → Option β) : Option β :=
 match (foldO step s0 kvs).bind fun s => f (out s) with
 | none => none
 | some r => if (perms kvs).all (fun ys => decide (((foldO step s0 ys).bind fun s => f (out s)) = some r)) = true then some r else none
theorem Ap.orderedP [DecidableEq β] {kvs : List α} {f g : σ → α → Option σ} {s0 : σ} {out : σ → τ} {p q : τ → Option β} (h : ∀ s x, Ap (f s x) (g s x)) (k : ∀ t, Ap (p t) (q t)) : Ap (Bw.orderedP kvs f s0 out p) (Bw.ordered kvs g s0 out q) := fun r e => by
 unfold Bw.orderedP at e
 split at e
 ·cases e
 ·rename_i r' hr'
  split at e
  ·rename_i ha
   obtain rfl := Option.some.inj e
   rw [List.all_eq_true] at ha
   refine Q215.2 fun ys hy => ?_
   have := of_decide_eq_true (ha ys (Q205 hy))
   exact Ap.bind (Q206 h) (fun t => k _) _ this
  ·cases e
end
end Go.Bw
namespace Go.Bw
open Go Go.RowKit Go.Proofs Go.Sort

def cmp3 (a b : Int) : Int := if a < b then -1 else if b < a then 1 else 0
theorem Q267 (a b : Int) : Q56.f a b = some (cmp3 a b) := by
 unfold Q56.f Q96.f cmp3
 simp
 split
 ·rfl
 ·split <;> rfl
theorem Q195 {a b : Int} : cmp3 a b < 0 ↔ a < b := by
 unfold cmp3
 split
 ·simp [*]
 ·split <;> simp <;> omega
theorem Q169 {a b : Int} : cmp3 a b = 0 ↔ a = b := by
 unfold cmp3
 split
 ·simp; omega
 ·split <;> simp <;> omega
theorem or_run (a b c : Int) : Q25.f [a, b, c] = some (if a = 0 then if b = 0 then c else b else a) := by
 unfold Q25.f Q25.l0
 by_cases ha : a = 0
 ·by_cases hb : b = 0
  ·by_cases hc : c = 0
   ·subst ha hb hc
    rw [Q97, Q25.l0b]
    simp [nx, gt, IntKind.wrap, IntKind.bits, IntKind.signed]
    rw [Q97, Q25.l0b]
    simp [nx, gt, IntKind.wrap, IntKind.bits, IntKind.signed]
    rw [Q97, Q25.l0b]
    simp [nx, gt, IntKind.wrap, IntKind.bits, IntKind.signed]
    rw [Q97, Q25.l0b]
    simp [dn, jn]
   ·subst ha hb
    rw [Q97, Q25.l0b]
    simp [nx, gt, IntKind.wrap, IntKind.bits, IntKind.signed]
    rw [Q97, Q25.l0b]
    simp [nx, gt, IntKind.wrap, IntKind.bits, IntKind.signed]
    rw [Q97, Q25.l0b]
    simp [nx, gt, hc, upL, jn]
  ·subst ha
   rw [Q97, Q25.l0b]
   simp [nx, gt, IntKind.wrap, IntKind.bits, IntKind.signed]
   rw [Q97, Q25.l0b]
   simp [nx, gt, hb, upL, jn]
 ·rw [Q97, Q25.l0b]
  simp [nx, gt, ha, upL, jn]
def edgeCmp (x y : Q6) : Int := if cmp3 x.From y.From = 0 then if cmp3 x.Action y.Action = 0 then cmp3 x.To y.To else cmp3 x.Action y.Action else cmp3 x.From y.From
theorem edge_run (x y : Q6) : Q94.f x.From x.Action x.To y.From y.Action y.To = some (edgeCmp x y) := by
 unfold Q94.f
 simp only [Q267, Option.bind_some, or_run]
 rfl
theorem Q223 (x y : Q6) : Q32.cmp x y = some (edgeCmp x y) := edge_run x y
def edgeLt (x y : Q6) : Prop := x.From < y.From ∨ x.From = y.From ∧ (x.Action < y.Action ∨ x.Action = y.Action ∧ x.To < y.To)
theorem Q250 {x y : Q6} : edgeCmp x y < 0 ↔ edgeLt x y := by
 unfold edgeCmp edgeLt
 by_cases h1 : x.From = y.From
 ·rw [if_pos (Q169.2 h1)]
  by_cases h2 : x.Action = y.Action
  ·rw [if_pos (Q169.2 h2), Q195]; omega
  ·rw [if_neg (fun h => h2 (Q169.1 h)), Q195]; omega
 ·rw [if_neg (fun h => h1 (Q169.1 h)), Q195]; omega
theorem Q154 (x y : Q6) : ltOf (gcf Q32.cmp) x y = true ↔ edgeLt x y := by
 unfold ltOf gcf
 rw [Q223]
 simp [Q250]
theorem edge_ltOf' (x y : Q6) : ltOf (gcf Q32.cmp) x y = false ↔ ¬ edgeLt x y := by
 rw [← Q154]; simp
theorem Q235 : CmpTot Q32.cmp := by
 refine ⟨⟨fun x y => by rw [Q223]; rfl, fun x => ?_, fun x y z h1 h2 => ?_, fun x y z h1 h2 => ?_⟩, fun x y h1 h2 => ?_⟩
 ·rw [edge_ltOf']; unfold edgeLt; omega
 ·rw [Q154] at *; unfold edgeLt at *; omega
 ·rw [edge_ltOf'] at *; unfold edgeLt at *; omega
 ·rw [edge_ltOf'] at *
  unfold edgeLt at *
  cases x
  cases y
  simp at *
  omega
theorem cb_self : ∀ (x : Bs), Lib.compareBytes x x = 0
 | [] => rfl
 | a :: x => by unfold Lib.compareBytes; rw [if_neg (UInt8.lt_irrefl a), if_neg (UInt8.lt_irrefl a)]; exact cb_self x
theorem cb_eq : ∀ {x y : Bs}, Lib.compareBytes x y = 0 → x = y
 | [], [], _ => rfl
 | [], _ :: _, h => by simp [Lib.compareBytes] at h
 | _ :: _, [], h => by simp [Lib.compareBytes] at h
 | a :: x, b :: y, h => by
  unfold Lib.compareBytes at h
  split at h
  ·simp at h
  ·split at h
   ·simp at h
   ·rename_i h1 h2
    rw [cb_eq h, UInt8.le_antisymm (UInt8.not_lt.1 h2) (UInt8.not_lt.1 h1)]
theorem cb_neg : ∀ {x y : Bs}, Lib.compareBytes y x = - Lib.compareBytes x y
 | [], [] => rfl
 | [], _ :: _ => rfl
 | _ :: _, [] => rfl
 | a :: x, b :: y => by
  unfold Lib.compareBytes
  by_cases h1 : a < b
  ·rw [if_neg (UInt8.lt_asymm h1), if_pos h1, if_pos h1]; rfl
  ·by_cases h2 : b < a
   ·rw [if_pos h2, if_neg h1, if_pos h2]
   ·rw [if_neg h1, if_neg h2, if_neg h2, if_neg h1]; exact cb_neg
theorem Q184 : ∀ {x y z : Bs}, Lib.compareBytes x y < 0 → Lib.compareBytes y z < 0 → Lib.compareBytes x z < 0
 | [], [], _, h, _ => by simp [Lib.compareBytes] at h
 | [], _ :: _, [], _, h => by simp [Lib.compareBytes] at h
 | [], _ :: _, _ :: _, _, _ => by simp [Lib.compareBytes]
 | _ :: _, [], _, h, _ => by simp [Lib.compareBytes] at h
 | _ :: _, _ :: _, [], _, h => by simp [Lib.compareBytes] at h
 | a :: x, b :: y, c :: z, h1, h2 => by
  unfold Lib.compareBytes at h1 h2 ⊢
  by_cases hab : a < b
  ·by_cases hbc : b < c
   ·rw [if_pos (UInt8.lt_trans hab hbc)]; decide
   ·rw [if_neg hbc] at h2
    by_cases hcb : c < b
    ·rw [if_pos hcb] at h2; simp at h2
    ·have : b = c := UInt8.le_antisymm (UInt8.not_lt.1 hcb) (UInt8.not_lt.1 hbc)
     subst this
     rw [if_pos hab]; decide
  ·rw [if_neg hab] at h1
   by_cases hba : b < a
   ·rw [if_pos hba] at h1; simp at h1
   ·have : a = b := UInt8.le_antisymm (UInt8.not_lt.1 hba) (UInt8.not_lt.1 hab)
    subst this
    rw [if_neg hba] at h1
    by_cases hbc : a < c
    ·rw [if_pos hbc]; decide
    ·rw [if_neg hbc] at h2 ⊢
     by_cases hcb : c < a
     ·rw [if_pos hcb] at h2; simp at h2
     ·rw [if_neg hcb] at h2 ⊢
      exact Q184 h1 h2
theorem Q210 (x y : Q5) : Q40.cmp x y = some (Lib.compareBytes x.Name y.Name) := rfl
theorem Q161 (x y : Q5) : ltOf (gcf Q40.cmp) x y = true ↔ Lib.compareBytes x.Name y.Name < 0 := by
 unfold ltOf gcf
 rw [Q210]
 simp
theorem prop_ltOf' (x y : Q5) : ltOf (gcf Q40.cmp) x y = false ↔ 0 ≤ Lib.compareBytes x.Name y.Name := by
 have := Q161 x y
 rw [← Bool.not_eq_true, this]; omega
theorem prop_swo : CmpSwo Q40.cmp := by
 refine ⟨fun x y => by rw [Q210]; rfl, fun x => ?_, fun x y z h1 h2 => ?_, fun x y z h1 h2 => ?_⟩
 ·rw [prop_ltOf', cb_self]; decide
 ·rw [Q161] at *; exact Q184 h1 h2
 ·rw [prop_ltOf'] at *
  rw [cb_neg] at h1 h2 ⊢
  have h1' : Lib.compareBytes y.Name x.Name ≤ 0 := by omega
  have h2' : Lib.compareBytes z.Name y.Name ≤ 0 := by omega
  by_cases e1 : Lib.compareBytes y.Name x.Name = 0
  ·rw [← cb_eq e1]; omega
  ·by_cases e2 : Lib.compareBytes z.Name y.Name = 0
   ·rw [cb_eq e2]; omega
   ·have := Q184 (show Lib.compareBytes z.Name y.Name < 0 by omega) (show Lib.compareBytes y.Name x.Name < 0 by omega)
    omega
end Go.Bw
namespace Go.Bw
open Go Go.RowKit
instance : DecidableEq Q5 := fun a b => decidable_of_iff (a.Name = b.Name ∧ a.States = b.States) (by cases a; cases b; simp)
noncomputable def Q49.fc (fu : Nat) (a0 : List Int) : Option (List Int) := few2C (sortI a0)
theorem Q49.f_ap (fu : Nat) (a0 : List Int) : Ap (Q49.fc fu a0) (Q49.f a0) := fun r h => by
 unfold Q49.fc at h
 obtain ⟨h, hl⟩ := Q190 h
 obtain ⟨hb, hl2⟩ := sortI_eq h
 unfold Q49.f
 rw [if_pos (by omega), hb]
noncomputable def Q36.fc (fu : Nat) (G : List Q0) (I : Option Q3) (u : Int) (x : List Bs) (C : List Q6) (q : List Q5) (D : List Q9) (E : List (Bs × Bool)) : Option ((List Q5) × (Option Q3) × (List Q0)) :=
 (Q95.f G I u x C q D E).bind fun p =>
 jn (
 if p.1.isNone = true then
 if 8 ≤ (q.length : Int) then
 (Q15.f p.2.1 p.1 u x C q D E p.2.2.1 p.2.2.2.1 p.2.2.2.2.1 p.2.2.2.2.2 10).bind fun J =>
 some (.inl J)
 else
 (Q120.f q p.2.2.1 p.2.2.2.1 p.2.2.2.2.1 p.2.2.2.2.2).bind fun L =>
 if L = true then
 (Q15.f p.2.1 p.1 u x C q D E p.2.2.1 p.2.2.2.1 p.2.2.2.2.1 p.2.2.2.2.2 9).bind fun M =>
 some (.inl M)
 else
 some (.inl p.1)
 else
 up (some (q, p.1, p.2.1))) (fun (N : Option Q3) =>
 jn (Q36.l0 u x C q D E ([] : List Int) N p.2.1) (fun (s_ : (Option Q3) × (List Int) × (List Q0)) =>
 (Q49.fc fu s_.2.1).bind fun O =>
 if (q.length + 1) * 40 ≤ 140737488355328 then
 some ((q ++ [(⟨p.2.2.2.2.1, O⟩ : Q5)]), s_.1, s_.2.2)
 else none))
theorem Q36.f_ap (fu : Nat) (p : List Q0) (q : Option Q3) (u : Int) (x : List Bs) (C : List Q6) (D : List Q5) (E : List Q9) (G : List (Bs × Bool)) : Ap (Q36.fc fu p q u x C D E G) (Q36.f p q u x C D E G) := by
 unfold Q36.fc Q36.f
 repeat' with_reducible first | apply Q49.f_ap | exact Ap.none | apply Ap.jn | apply Ap.ite | apply Ap.up | apply Ap.bind | exact Ap.refl _ | intro
noncomputable def Q74.fc (fu : Nat) (a0 : List Bs) : Option (List Bs) := few2C (sortB a0)
theorem Q74.f_ap (fu : Nat) (a0 : List Bs) : Ap (Q74.fc fu a0) (Q74.f a0) := fun r h => by
 unfold Q74.fc at h
 obtain ⟨h, hl⟩ := Q190 h
 obtain ⟨hb, hl2⟩ := sortB_eq h
 unfold Q74.f
 rw [if_pos (by omega), hb]
noncomputable def Q32.fc (fu : Nat) (a0 : List Q6) : Option (List Q6) := few2C (sortC (fun x y => Q94.f x.From x.Action x.To y.From y.Action y.To) a0)
theorem Q32.f_ap (fu : Nat) (a0 : List Q6) : Ap (Q32.fc fu a0) (Q32.f a0) := fun r h => by
 unfold Q32.fc at h
 obtain ⟨h, hl⟩ := Q190 h
 obtain ⟨hb, hl2⟩ := sort_tot (c := Q32.cmp) (fun x y => Ap.refl _) Q235 h
 unfold Q32.f
 rw [if_pos ⟨by omega, Q235⟩, hb]
noncomputable def Q40.fc (fu : Nat) (a0 : List Q5) : Option (List Q5) := soloC a0
theorem Q40.f_ap (fu : Nat) (a0 : List Q5) : Ap (Q40.fc fu a0) (Q40.f a0) := fun r h => by
 obtain ⟨rfl, h⟩ := solo_mem h
 rcases h with rfl | ⟨x, rfl⟩ <;> simp [Q40.f, byCmp, CmpParts, prop_swo]
noncomputable def Q24.fc (fu : Nat) (N : List Q0) (O : Option Q3) (q : Int) (u : List Bs) (x : List Q6) (C : List Q5) (D : List Q9) (E : List (Bs × Bool)) : Option ((List Q5) × (List Q6) × (List Bs) × Int) :=
 orderedP E (fun (t_ : (List Bs)) (z_ : Bs × Bool) => Q24.l0b  z_ t_) u (fun G => G) (fun (I : List Bs) =>
 (Q74.fc fu I).bind fun p =>
 jn (Q24.l1 D p x 0) (fun (J : List Q6) =>
 (Q32.fc fu J).bind fun L =>
 (Q40.fc fu C).bind fun M =>
 some (M, L, p, q)))
theorem Q24.f_ap (fu : Nat) (p : List Q0) (q : Option Q3) (u : Int) (x : List Bs) (C : List Q6) (D : List Q5) (E : List Q9) (G : List (Bs × Bool)) : Ap (Q24.fc fu p q u x C D E G) (Q24.f p q u x C D E G) := by
 unfold Q24.fc Q24.f
 repeat' with_reducible first | apply Q74.f_ap | apply Q32.f_ap | apply Q40.f_ap | apply Ap.jn | apply Ap.orderedP | apply Ap.bind | exact Ap.refl _ | intro
noncomputable def Q18.l0bc (fu : Nat) (C : (Option Q3) × (List Q0) × Int) (D : Option Q3) (q : List Q5) (u : List Q9) (x : List (Bs × Bool)) (J : List Q0) : Option (((Option Q3) × (List Q5) × (List Q9) × (List (Bs × Bool)) × (List Q0)) ⊕ (((Option Q3) × (List Q5) × (List Q9) × (List (Bs × Bool)) × (List Q0)) ⊕ ((Option Q3) × (List Bs) × (List Q6) × (List Q5) × Int))) :=
 if D.isNone = true then
 (Q46.f J D C.2.2 ([] : List Bs) ([] : List Q6) q u x).bind fun E =>
 if (0 : Int) ≤ 0 ∧ 0 < (E.length : Int) then
 if (gt E 0).Kind = 0 then
 dn (.inl (D, q, u, x, E))
 else
 (Q43.f E D C.2.2 ([] : List Bs) ([] : List Q6) q u x 2).bind fun p =>
 if p.1.isNone = true then
 if bseq p.2.2.2.2.1 ([101, 100, 103, 101] : Bs) = true then
 (Q117.f p.2.1 p.1 C.2.2 ([] : List Bs) ([] : List Q6) q u x p.2.2.1 p.2.2.2.1 p.2.2.2.2.1 p.2.2.2.2.2).bind fun G =>
 nx (G.2.2.1, q, G.1, G.2.1, G.2.2.2)
 else
 if bseq p.2.2.2.2.1 ([109, 97, 114, 107] : Bs) = true then
 (Q36.fc fu p.2.1 p.1 C.2.2 ([] : List Bs) ([] : List Q6) q u x).bind fun I =>
 nx (I.2.1, I.1, u, x, I.2.2)
 else
 (Q15.f p.2.1 p.1 C.2.2 ([] : List Bs) ([] : List Q6) q u x p.2.2.1 p.2.2.2.1 p.2.2.2.2.1 p.2.2.2.2.2 7).bind fun L =>
 nx (L, q, u, x, p.2.1)
 else
 nx (p.1, q, u, x, p.2.1)
 else none
 else
 dn (.inl (D, q, u, x, J))
theorem Q18.l0b_ap (fu : Nat) (p : (Option Q3) × (List Q0) × Int) (q : Option Q3) (u : List Q5) (x : List Q9) (C : List (Bs × Bool)) (D : List Q0) : Ap (Q18.l0bc fu p q u x C D) (Q18.l0b p q u x C D) := by
 unfold Q18.l0bc Q18.l0b
 repeat' with_reducible first | apply Q36.f_ap | exact Ap.none | apply Ap.ite | apply Ap.bind | exact Ap.refl _ | intro
noncomputable def Q18.l0c (fu : Nat) (p : (Option Q3) × (List Q0) × Int) (q : Option Q3) (u : List Q5) (x : List Q9) (C : List (Bs × Bool)) (D : List Q0) : Option (((Option Q3) × (List Q5) × (List Q9) × (List (Bs × Bool)) × (List Q0)) ⊕ ((Option Q3) × (List Bs) × (List Q6) × (List Q5) × Int)) := iterC fu (fun t_ : (Option Q3) × (List Q5) × (List Q9) × (List (Bs × Bool)) × (List Q0) => Q18.l0bc fu p t_.1 t_.2.1 t_.2.2.1 t_.2.2.2.1 t_.2.2.2.2) (q, u, x, C, D)
theorem Q18.l0_ap (fu : Nat) (p : (Option Q3) × (List Q0) × Int) (q : Option Q3) (u : List Q5) (x : List Q9) (C : List (Bs × Bool)) (D : List Q0) : Ap (Q18.l0c fu p q u x C D) (Q18.l0 p q u x C D) := by
 unfold Q18.l0c Q18.l0
 repeat' with_reducible first | apply Q18.l0b_ap | apply Ap.iter | exact Ap.refl _ | intro
noncomputable def Q18.fc (fu : Nat) (a0 : Bs) : Option ((Option Q3) × (List Bs) × (List Q6) × (List Q5) × Int) :=
 (Q45.f a0).bind fun u =>
 if u.1.isNone = true then
 (Q121.f u.2 (none : Option Q3) 0 ([] : List Bs) ([] : List Q6) ([] : List Q5) ([] : List Q9) ([] : List (Bs × Bool))).bind fun p =>
 jn (Q18.l0c fu p p.1 ([] : List Q5) ([] : List Q9) ([] : List (Bs × Bool)) p.2.1) (fun (s_ : (Option Q3) × (List Q5) × (List Q9) × (List (Bs × Bool)) × (List Q0)) =>
 if s_.1.isNone = true then
 (Q24.fc fu s_.2.2.2.2 s_.1 p.2.2 ([] : List Bs) ([] : List Q6) s_.2.1 s_.2.2.1 s_.2.2.2.1).bind fun q =>
 some (none, q.2.2.1, q.2.1, q.1, q.2.2.2)
 else
 some ((some (⟨(s_.1.getD default).At, (s_.1.getD default).Err⟩ : Q3)), ([] : List Bs), ([] : List Q6), ([] : List Q5), 0))
 else
 some (u.1, ([] : List Bs), ([] : List Q6), ([] : List Q5), 0)
theorem Q18.f_ap (fu : Nat) (a0 : Bs) : Ap (Q18.fc fu a0) (Q18.f a0) := by
 unfold Q18.fc Q18.f
 repeat' with_reducible first | apply Q18.l0_ap | apply Q24.f_ap | exact Ap.none | apply Ap.jn | apply Ap.ite | apply Ap.bind | exact Ap.refl _ | intro
noncomputable def Q61.fc (fu : Nat)  : Option Bool :=
 (Q18.fc fu ([115, 116, 97, 116, 101, 115, 32, 50, 10, 101, 100, 103, 101, 32, 48, 32, 97, 32, 49, 10] : Bs)).bind fun q =>
 (Q23.f q.2.2.2.2 q.2.1 q.2.2.1 q.2.2.2.1).bind fun u =>
 (Q118.f ([60, 97, 62, 112] : Bs)).bind fun x =>
 jn (
 if q.1.isNone = true then
 some (.inl (!x.1.isNone))
 else
 some (.inl true)) (fun (C : Bool) =>
 jn (
 if C = true then
 some (.inl true)
 else
 some (.inl u.isNone)) (fun (D : Bool) =>
 if D = true then
 some false
 else
 if u.isNone = false then
 (Q59.f ((u.getD default).states) ((u.getD default).holds) ((u.getD default).next) x.2 0).bind fun p =>
 jn (
 if p.2.2.2.2 = 0 then
 some (.inl (decide ((p.1.length : Int) = 2)))
 else
 some (.inl false)) (fun (E : Bool) =>
 jn (
 if E = true then
 if (0 : Int) ≤ 1 ∧ 1 < (p.1.length : Int) then
 some (.inl (decide ((gt p.1 1).State = 1) && (decide ((gt p.1 1).Node = 0) && true)))
 else none
 else
 some (.inl false)) (fun (G : Bool) =>
 jn (
 if G = true then
 some (.inl (decide ((p.2.2.1.length : Int) = 2)))
 else
 some (.inl false)) (fun (I : Bool) =>
 jn (
 if I = true then
 if (0 : Int) ≤ 1 ∧ 1 < (p.2.2.1.length : Int) then
 some (.inl (decide (gt p.2.2.1 1 = 1)))
 else none
 else
 some (.inl false)) (fun (J : Bool) =>
 some J))))
 else none))
theorem Q61.f_ap (fu : Nat)  : Ap (Q61.fc fu ) (Q61.f ) := by
 unfold Q61.fc Q61.f
 repeat' with_reducible first | apply Q18.f_ap | exact Ap.none | apply Ap.jn | apply Ap.ite | apply Ap.bind | exact Ap.refl _ | intro
theorem Q262 : Q61.f = some true := Q61.f_ap 100 _ (by kernel_rfl)
end Go.Bw
namespace Go.Bw
open Go Go.RowKit

theorem Q229 {σ ρ : Type} {body : σ → Option (σ ⊕ ρ)} (I : σ → Prop) (Q : ρ → Prop) (μ : σ → Nat) (h : ∀ s, I s → (∃ r, body s = some (.inr r) ∧ Q r) ∨ ∃ s', body s = some (.inl s') ∧ I s' ∧ μ s' < μ s) :
 ∀ s, I s → ∃ r, iter body s = some r ∧ Q r := by
 have key : ∀ n s, μ s < n → I s → ∃ r, iter body s = some r ∧ Q r := by
  intro n
  induction n with
  | zero => intro s hn; omega
  | succ n ih =>
   intro s hn hI
   rw [Q97]
   rcases h s hI with ⟨r, hr, hq⟩ | ⟨s', hs, hI', hlt⟩
   ·exact ⟨r, by rw [hr]; rfl, hq⟩
   ·obtain ⟨r, hr, hq⟩ := ih s' (by omega) hI'
    exact ⟨r, by rw [hs]; exact hr, hq⟩
 exact fun s hI => key _ s (Nat.lt_succ_self _) hI
theorem wrap64 {x : Int} (h0 : -9223372036854775808 ≤ x) (h1 : x ≤ 9223372036854775807) : IntKind.i64.wrap x = x := by
 simp [IntKind.wrap, IntKind.bits, IntKind.signed]
 omega
section
variable {α : Type} [Inhabited α]
theorem gt_of_get {xs : List α} {i : Nat} {x : α} (h : xs[i]? = some x) : gt xs (i : Int) = x := by
 unfold gt
 simp [List.getD_eq_getElem?_getD, h]
end
end Go.Bw
namespace Go.Bw
open Go Go.RowKit

theorem place_run (K : List Q2) (k : Q2) (hl : (K.length : Int) ≤ 9223372036854775800) : ∃ i, Q34.f K k.State k.Node = some i ∧ Q42.f K k.State k.Node = some i ∧ (i = -1 ∧ k ∉ K ∨ 0 ≤ i ∧ i < (K.length : Int) ∧ gt K i = k) := by
 have hb : ∀ i, Q42.l0b K k.State k.Node i = Q34.l0b K k.State k.Node i := fun i => by
  unfold Q42.l0b Q34.l0b
  rw [show decide (k.State = (gt K i).State) = decide ((gt K i).State = k.State) from decide_eq_decide.2 eq_comm, show decide (k.Node = (gt K i).Node) = decide ((gt K i).Node = k.Node) from decide_eq_decide.2 eq_comm]
 have hs : Q42.l0 K k.State k.Node 0 = Q34.l0 K k.State k.Node 0 := by
  unfold Q42.l0 Q34.l0
  congr 1
  funext i
  exact hb i
 have hk : ∀ x : Q2, (decide (k.State = x.State) && (decide (k.Node = x.Node) && true)) = true ↔ x = k := fun x => by
  simp only [Bool.and_true, Bool.and_eq_true, decide_eq_true_eq]
  exact ⟨fun h => by cases x; cases k; simp_all, fun h => by subst h; exact ⟨rfl, rfl⟩⟩
 unfold Q42.f Q34.f
 rw [hs]
 obtain ⟨r, hr, hq⟩ := Q229 (body := fun t_ : Int => Q34.l0b K k.State k.Node t_) (fun i => 0 ≤ i ∧ ∀ m, 0 ≤ m → m < i → m < (K.length : Int) → gt K m ≠ k)
  (fun r => (∃ i, r = .inr i ∧ 0 ≤ i ∧ i < (K.length : Int) ∧ gt K i = k) ∨ r = .inl () ∧ ∀ m, 0 ≤ m → m < (K.length : Int) → gt K m ≠ k) (fun i => ((K.length : Int) - i).toNat) (fun i ⟨i0, hp⟩ => by
   unfold Q34.l0b
   by_cases hi : i < (K.length : Int)
   ·rw [if_pos hi, if_pos ⟨i0, hi⟩]
    by_cases he : gt K i = k
    ·left
     rw [if_pos ((hk _).2 he)]
     exact ⟨_, rfl, .inl ⟨i, rfl, i0, hi, he⟩⟩
    ·right
     rw [if_neg (fun h => he ((hk _).1 h)), wrap64 (x := i + 1) (by omega) (by omega)]
     refine ⟨_, rfl, ⟨by omega, fun m m0 m1 m2 => ?_⟩, by omega⟩
     by_cases hm : m = i
     ·subst hm; exact he
     ·exact hp m m0 (by omega) m2
   ·left
    rw [if_neg hi]
    exact ⟨_, rfl, .inr ⟨rfl, fun m m0 m1 => hp m m0 (by omega) m1⟩⟩) 0 ⟨Int.le_refl 0, fun m m0 m1 => by omega⟩
 have hr' : Q34.l0 K k.State k.Node 0 = some r := hr
 rw [hr']
 rcases hq with ⟨i, rfl, h1, h2, h3⟩ | ⟨rfl, h⟩
 ·exact ⟨i, by rw [jn_inr], by rw [jn_inr], .inr ⟨h1, h2, h3⟩⟩
 ·refine ⟨-1, by rw [jn_inl], by rw [jn_inl], .inl ⟨rfl, fun hm => ?_⟩⟩
  obtain ⟨q, hq, e⟩ := List.getElem_of_mem hm
  exact h (q : Int) (by omega) (by omega) (by rw [gt_of_get (List.getElem?_eq_getElem hq), e])
theorem Q243 (O P : List Int) (Ms : List (List Int)) (K L : List Q2) (hK : (K.length : Int) ≤ 9223372036854775800) (hL : (L.length : Int) ≤ 9223372036854775800) : Q51.f O P Ms K L = some true := by
 unfold Q51.f
 rw [Q262, Option.bind_some]
 obtain ⟨r, hr, rfl⟩ := Q229 (body := fun t_ : Int => Q51.l0b O P Ms K L t_) (fun i => 0 ≤ i) (fun r => r = .inl ()) (fun i => ((L.length : Int) - i).toNat) (fun i i0 => by
  unfold Q51.l0b
  by_cases hi : i < (L.length : Int)
  ·right
   obtain ⟨p, h1, h2, _⟩ := place_run K (gt L i) hK
   unfold Q119.f Q122.f
   rw [if_pos hi, if_pos ⟨i0, hi⟩, h1, h2]
   simp only [Option.bind_some, if_true]
   rw [wrap64 (x := i + 1) (by omega) (by omega)]
   exact ⟨_, rfl, by omega, by omega⟩
  ·left
   rw [if_neg hi]
   exact ⟨_, rfl, rfl⟩) 0 (Int.le_refl 0)
 have hr' : Q51.l0 O P Ms K L 0 = some (.inl ()) := hr
 rw [hr', jn_inl]
end Go.Bw
namespace Go.Bw
open Go Go.RowKit Go.Proofs Go.ChangeShapes Go.WideShapes
abbrev laid64 : List (String × DataW Unit) := [("math/bits.deBruijn64tab", Go.Proofs.YtfbjkcnefhgodaaGreatDoor.Rows.laid_math_bits_deBruijn64tab)]
theorem Q268 {H : Type} : (Go.Proofs.YtfbjkcnefhgodaaGreatDoor.Rows.laid_math_bits_deBruijn64tab : DataW H) = .agg (Tryz.gtab0.map fun a => .lit (.int .u8 a)) := rfl
theorem Q255 : Tryz.prog.globalNamed "math/bits.deBruijn64tab" = some 0 := by kernel_rfl
theorem Q270 : (Tryz.prog.globals[0]?).map (·.type) = some 148 := by kernel_rfl
theorem Q260 (os : Os) (args : Array Value) : laidMetH Tryz.prog laid64 ((World.doorLaid Tryz.prog 31 os).forCall (fun _ _ => 0) ⟨#[], args, []⟩).memory :=
 laidMetH_of_parts3 (fuel := 8) (laidMet_of_run' 8 (by kernel_rfl) (by kernel_rfl)) (by kernel_rfl) (by kernel_rfl)
theorem laid64_rd {W : World} (h : laidMetH Tryz.prog laid64 W) : RdS (Fl.int .u8).rep (wh W) (some ⟨0, 0, none⟩) Tryz.gtab0 := by
 rw [MakeChecks.laidMetH_plain _ _ _ (by kernel_rfl)] at h
 obtain ⟨ps, ⟨g0, t0, cs0, f0, p0, q0, hg0, ht0, hv0, hd0, _, _⟩, _, _⟩ := h
 obtain rfl := Option.some.inj (Q255.symm.trans hg0)
 obtain rfl := Option.some.inj (Q270.symm.trans ht0)
 obtain ⟨xs, m1, rfl, hx1, hlen, hn3, hel⟩ := DataW.trod_array Tryz.underlying148 hd0
 have hx : xs.map (·.1) = Tryz.gtab0.map fun a => (DataW.lit (.int .u8 a) : DataW Unit) := by
  have h1 := (Prod.mk.inj hx1).1
  have h2 := (Q268 (H := Unit)).symm.trans h1
  exact (DataW.agg.inj h2).symm
 refine Q261 fun i hi => ?_
 have hgl : Tryz.gtab0.length = 64 := rfl
 have hi' : i < 64 := by omega
 have he := hel i hi'
 have hxi : i < xs.length := by omega
 rw [List.getElem?_eq_getElem hxi] at he
 obtain ⟨k, e1, e2, _⟩ := DataW.trod_int Tryz.underlying5 he
 obtain ⟨v, hv⟩ : ∃ v, Tryz.gtab0[i]? = some v := ⟨_, List.getElem?_eq_getElem hi⟩
 have h2 := congrArg (fun l => l[i]?) hx
 simp only [List.getElem?_map, List.getElem?_eq_getElem hxi, hv, Option.map_some, Option.some.injEq] at h2
 rw [e2] at h2
 have hk : k = v := by simpa using h2
 have c5 : Tryz.prog.cellsOf 5 = 1 := by kernel_rfl
 rw [c5, Nat.mul_one] at e1
 rw [World.var?_cell hg0 hv0 i]
 have hc : (cs0.toList.drop i)[0]? = some (.int .u8 k) := by
  cases hd : cs0.toList.drop i with
  | nil => rw [hd] at e1; simp at e1
  | cons a r => rw [hd] at e1; simp at e1; simp [e1]
 rw [List.getElem?_drop, Nat.add_zero] at hc
 rw [List.getD_eq_getElem?_getD, hv, Option.getD_some, ← hk]
 simpa using hc
end Go.Bw
namespace Go.Bw
open Go Go.RowKit Go.Proofs
theorem Q247 {O P : List Int} {Ms : List (List Int)} {K L : List Q2} {A B : Prop} (h : A ∧ K.length ≤ maxLen ∧ B) {A' B' : Prop} (w : A' ∧ K.length * Tryz.prog.bytesOf 65 ≤ reachBytes ∧ B') {C : Prop} (h2 : L.length ≤ maxLen ∧ C) {D : Prop} (w2 : L.length * Tryz.prog.bytesOf 65 ≤ reachBytes ∧ D) :
 Q51.f O P Ms K L = some true := by
 have b : Tryz.prog.bytesOf 65 = 16 := by kernel_rfl
 have hr : reachBytes = 140737488351232 := rfl
 have h1 := w.2.1
 have h2 := w2.1
 rw [b, hr] at h1 h2
 exact Q243 O P Ms K L (by omega) (by omega)
end Go.Bw
