/- BisimClasses, part 6: walks and plain laws. Conditions: none. -/
import Derived.Test.YtbkooifhcekpmaaGreatDoorProg
import Derived.Deep.QuietTactic
import Derived.Lib.AppendStr
import Derived.Lib.UnsafeStr
import Derived.Lib.Builder
import Derived.Laws.BytesString
import Derived.Test.YtbkooifhcekpmaaGreatDoorRows
import Derived.LaidMore
import Derived.ProofKit
import Derived.OpenShut
import Derived.Stop.Joined
import Derived.Test.YtbkooifhcekpmaaGreatDoorBwBisimClassesE
set_option linter.unusedVariables false
set_option linter.unusedSimpArgs false
set_option linter.unusedSectionVars false
set_option maxRecDepth 100000
set_option maxHeartbeats 2000000
namespace Go.Bw
open Go Go.RowKit

section
variable {n : Int} {x : List Bs} {y : List Q0} {next : List (Q14 × Q5)} {holds : List (Bs × Q5)}
noncomputable def nxW (hx : Nx x y next) (s : Int) (a : Bs) : W4 := (hx ⟨s, a⟩).choose
theorem Q202 (hx : Nx x y next) (s : Int) (a : Bs) : (nxW hx s a).Rep (Hit x y ⟨s, a⟩) := (hx ⟨s, a⟩).choose_spec.2
theorem nxW_run (hx : Nx x y next) (n : Int) (holds : List (Bs × Q5)) (s : Int) (a : Bs) : Q111.f n holds next s a = some (nxW hx s a).t := by
 have h := (hx ⟨s, a⟩).choose_spec.1
 unfold Q111.f
 rw [h]
 rfl
theorem nxW_in (hx : Nx x y next) (hn : n ≤ 24) (he : ∀ e ∈ y, EdgeIn n x.length e) {s : Int} {a : Bs} {t : Int} (h : t ∈ (nxW hx s a).list) : 0 ≤ t ∧ t < n := by
 obtain ⟨_, _, e, h1, _, h2, _⟩ := (Q160 (Q202 hx s a)).1 h
 have h2' : e.To = t := h2
 have := (he e h1).2.2
 omega
noncomputable def sgF (hx : Nx x y next) (l : List Int) (s m : Int) : Int → W4 := fun j => if 0 ≤ j ∧ j < m then (nxW hx s (gt x j)).list.foldl (fun u t => putc u (gt l t)) W4.z else W4.z
theorem sgF_zero (hx : Nx x y next) (l : List Int) (s : Int) : sgF hx l s 0 = fun _ => W4.z := by funext j; unfold sgF; rw [if_neg (by omega)]
theorem sgF_step (hx : Nx x y next) (l : List Int) (s : Int) {i : Int} (h0 : 0 ≤ i) : upd (sgF hx l s i) i ((nxW hx s (gt x i)).list.foldl (fun u t => putc u (gt l t)) (sgF hx l s i i)) = sgF hx l s (i + 1) := by
 have hz : sgF hx l s i i = W4.z := by unfold sgF; rw [if_neg (by omega)]
 rw [hz]
 funext j
 unfold upd sgF
 by_cases hj : j = i
 ·subst hj
  rw [if_pos rfl, if_pos (by omega)]
 ·rw [if_neg hj]
  by_cases h1 : 0 ≤ j ∧ j < i
  ·rw [if_pos h1, if_pos (by omega)]
  ·rw [if_neg h1, if_neg (by omega)]
theorem sg_l0 (hx : Nx x y next) (hn : n ≤ 24) (hl8 : x.length ≤ 8) (he : ∀ e ∈ y, EdgeIn n x.length e) (l : List Int) (hl : (l.length : Int) = n) (s : Int) : ∀ (q : Nat) (i : Int), 0 ≤ i → (x.length : Int) - i = q →
 iter (fun t_ : Option Q2 × Int × Int × Int × Int × Int × Int × Int × Int × Int × Int × Int × Int × Int × Int × Int × Int × Int × Int × Int × Int × Int × Int × Int × Int × Int × Int × Int × Int × Int × Int × Int × Int × Int => Q22.l0b s l x t_.1 t_.2.1 t_.2.2.1 t_.2.2.2.1 t_.2.2.2.2.1 t_.2.2.2.2.2.1 t_.2.2.2.2.2.2.1 t_.2.2.2.2.2.2.2.1 (d8 t_).1 (d8 t_).2.1 (d8 t_).2.2.1 (d8 t_).2.2.2.1 (d8 t_).2.2.2.2.1 (d8 t_).2.2.2.2.2.1 (d8 t_).2.2.2.2.2.2.1 (d8 t_).2.2.2.2.2.2.2.1 (d8 (d8 t_)).1 (d8 (d8 t_)).2.1 (d8 (d8 t_)).2.2.1 (d8 (d8 t_)).2.2.2.1 (d8 (d8 t_)).2.2.2.2.1 (d8 (d8 t_)).2.2.2.2.2.1 (d8 (d8 t_)).2.2.2.2.2.2.1 (d8 (d8 t_)).2.2.2.2.2.2.2.1 (d8 (d8 (d8 t_))).1 (d8 (d8 (d8 t_))).2.1 (d8 (d8 (d8 t_))).2.2.1 (d8 (d8 (d8 t_))).2.2.2.1 (d8 (d8 (d8 t_))).2.2.2.2.1 (d8 (d8 (d8 t_))).2.2.2.2.2.1 (d8 (d8 (d8 t_))).2.2.2.2.2.2.1 (d8 (d8 (d8 t_))).2.2.2.2.2.2.2.1 (d8 (d8 (d8 (d8 t_)))).1 (d8 (d8 (d8 (d8 t_)))).2) (O34 (some ⟨n, holds, next⟩) (sgF hx l s i) i) = some (.inl (O33 (some ⟨n, holds, next⟩) (sgF hx l s x.length))) := fun q => by
 induction q with
 | zero =>
  intro i i0 iq
  have hb : Q22.l0b s l x (some ⟨n, holds, next⟩) (Wd (sgF hx l s i 0).a) (Wd (sgF hx l s i 0).b) (Wd (sgF hx l s i 0).c) (Wd (sgF hx l s i 0).d) (Wd (sgF hx l s i 1).a) (Wd (sgF hx l s i 1).b) (Wd (sgF hx l s i 1).c) (Wd (sgF hx l s i 1).d) (Wd (sgF hx l s i 2).a) (Wd (sgF hx l s i 2).b) (Wd (sgF hx l s i 2).c) (Wd (sgF hx l s i 2).d) (Wd (sgF hx l s i 3).a) (Wd (sgF hx l s i 3).b) (Wd (sgF hx l s i 3).c) (Wd (sgF hx l s i 3).d) (Wd (sgF hx l s i 4).a) (Wd (sgF hx l s i 4).b) (Wd (sgF hx l s i 4).c) (Wd (sgF hx l s i 4).d) (Wd (sgF hx l s i 5).a) (Wd (sgF hx l s i 5).b) (Wd (sgF hx l s i 5).c) (Wd (sgF hx l s i 5).d) (Wd (sgF hx l s i 6).a) (Wd (sgF hx l s i 6).b) (Wd (sgF hx l s i 6).c) (Wd (sgF hx l s i 6).d) (Wd (sgF hx l s i 7).a) (Wd (sgF hx l s i 7).b) (Wd (sgF hx l s i 7).c) (Wd (sgF hx l s i 7).d) i = some (.inr (.inl (O33 (some ⟨n, holds, next⟩) (sgF hx l s i)))) := by
   unfold Q22.l0b
   rw [if_neg (by omega)]
   rfl
  have hq := Q156 (body := fun t_ : Option Q2 × Int × Int × Int × Int × Int × Int × Int × Int × Int × Int × Int × Int × Int × Int × Int × Int × Int × Int × Int × Int × Int × Int × Int × Int × Int × Int × Int × Int × Int × Int × Int × Int × Int => Q22.l0b s l x t_.1 t_.2.1 t_.2.2.1 t_.2.2.2.1 t_.2.2.2.2.1 t_.2.2.2.2.2.1 t_.2.2.2.2.2.2.1 t_.2.2.2.2.2.2.2.1 (d8 t_).1 (d8 t_).2.1 (d8 t_).2.2.1 (d8 t_).2.2.2.1 (d8 t_).2.2.2.2.1 (d8 t_).2.2.2.2.2.1 (d8 t_).2.2.2.2.2.2.1 (d8 t_).2.2.2.2.2.2.2.1 (d8 (d8 t_)).1 (d8 (d8 t_)).2.1 (d8 (d8 t_)).2.2.1 (d8 (d8 t_)).2.2.2.1 (d8 (d8 t_)).2.2.2.2.1 (d8 (d8 t_)).2.2.2.2.2.1 (d8 (d8 t_)).2.2.2.2.2.2.1 (d8 (d8 t_)).2.2.2.2.2.2.2.1 (d8 (d8 (d8 t_))).1 (d8 (d8 (d8 t_))).2.1 (d8 (d8 (d8 t_))).2.2.1 (d8 (d8 (d8 t_))).2.2.2.1 (d8 (d8 (d8 t_))).2.2.2.2.1 (d8 (d8 (d8 t_))).2.2.2.2.2.1 (d8 (d8 (d8 t_))).2.2.2.2.2.2.1 (d8 (d8 (d8 t_))).2.2.2.2.2.2.2.1 (d8 (d8 (d8 (d8 t_)))).1 (d8 (d8 (d8 (d8 t_)))).2) (s := O34 (some ⟨n, holds, next⟩) (sgF hx l s i) i) hb
  rw [hq, show i = (x.length : Int) from by omega]
 | succ q ih =>
  intro i i0 iq
  have hi : i < (x.length : Int) := by omega
  have h1 := sg_l1 l i0 (by omega) (nxW hx s (gt x i)).list (by have := Q253 (nxW hx s (gt x i)); omega) (fun t ht => by have := nxW_in hx hn he ht; omega) (sgF hx l s i)
  rw [sgF_step hx l s i0] at h1
  have hb : Q22.l0b s l x (some ⟨n, holds, next⟩) (Wd (sgF hx l s i 0).a) (Wd (sgF hx l s i 0).b) (Wd (sgF hx l s i 0).c) (Wd (sgF hx l s i 0).d) (Wd (sgF hx l s i 1).a) (Wd (sgF hx l s i 1).b) (Wd (sgF hx l s i 1).c) (Wd (sgF hx l s i 1).d) (Wd (sgF hx l s i 2).a) (Wd (sgF hx l s i 2).b) (Wd (sgF hx l s i 2).c) (Wd (sgF hx l s i 2).d) (Wd (sgF hx l s i 3).a) (Wd (sgF hx l s i 3).b) (Wd (sgF hx l s i 3).c) (Wd (sgF hx l s i 3).d) (Wd (sgF hx l s i 4).a) (Wd (sgF hx l s i 4).b) (Wd (sgF hx l s i 4).c) (Wd (sgF hx l s i 4).d) (Wd (sgF hx l s i 5).a) (Wd (sgF hx l s i 5).b) (Wd (sgF hx l s i 5).c) (Wd (sgF hx l s i 5).d) (Wd (sgF hx l s i 6).a) (Wd (sgF hx l s i 6).b) (Wd (sgF hx l s i 6).c) (Wd (sgF hx l s i 6).d) (Wd (sgF hx l s i 7).a) (Wd (sgF hx l s i 7).b) (Wd (sgF hx l s i 7).c) (Wd (sgF hx l s i 7).d) i = some (.inl (O34 (some ⟨n, holds, next⟩) (sgF hx l s (i + 1)) (i + 1))) := by
   unfold Q22.l0b
   rw [if_pos hi, if_pos ⟨i0, hi⟩]
   simp only [Option.isNone_some, if_true, Option.getD_some, nxW_run hx, Option.bind_some, W4.t, Q266, h1, Q10]
   rw [wrap64 (x := i + 1) (by omega) (by omega)]
   rfl
  rw [Q150 (body := fun t_ : Option Q2 × Int × Int × Int × Int × Int × Int × Int × Int × Int × Int × Int × Int × Int × Int × Int × Int × Int × Int × Int × Int × Int × Int × Int × Int × Int × Int × Int × Int × Int × Int × Int × Int × Int => Q22.l0b s l x t_.1 t_.2.1 t_.2.2.1 t_.2.2.2.1 t_.2.2.2.2.1 t_.2.2.2.2.2.1 t_.2.2.2.2.2.2.1 t_.2.2.2.2.2.2.2.1 (d8 t_).1 (d8 t_).2.1 (d8 t_).2.2.1 (d8 t_).2.2.2.1 (d8 t_).2.2.2.2.1 (d8 t_).2.2.2.2.2.1 (d8 t_).2.2.2.2.2.2.1 (d8 t_).2.2.2.2.2.2.2.1 (d8 (d8 t_)).1 (d8 (d8 t_)).2.1 (d8 (d8 t_)).2.2.1 (d8 (d8 t_)).2.2.2.1 (d8 (d8 t_)).2.2.2.2.1 (d8 (d8 t_)).2.2.2.2.2.1 (d8 (d8 t_)).2.2.2.2.2.2.1 (d8 (d8 t_)).2.2.2.2.2.2.2.1 (d8 (d8 (d8 t_))).1 (d8 (d8 (d8 t_))).2.1 (d8 (d8 (d8 t_))).2.2.1 (d8 (d8 (d8 t_))).2.2.2.1 (d8 (d8 (d8 t_))).2.2.2.2.1 (d8 (d8 (d8 t_))).2.2.2.2.2.1 (d8 (d8 (d8 t_))).2.2.2.2.2.2.1 (d8 (d8 (d8 t_))).2.2.2.2.2.2.2.1 (d8 (d8 (d8 (d8 t_)))).1 (d8 (d8 (d8 (d8 t_)))).2) (s := O34 (some ⟨n, holds, next⟩) (sgF hx l s i) i) (s' := O34 (some ⟨n, holds, next⟩) (sgF hx l s (i + 1)) (i + 1)) hb]
  exact ih (i + 1) (by omega) (by omega)
def sgK (c : Int) (f : Int → W4) : Q18 := ⟨c, ⟨(f 0).s, (f 1).s, (f 2).s, (f 3).s, (f 4).s, (f 5).s, (f 6).s, (f 7).s⟩⟩
def O34' (o : Option Q2) (c : Int) (f : Int → W4) : Option Q2 × Int × Int × Int × Int × Int × Int × Int × Int × Int × Int × Int × Int × Int × Int × Int × Int × Int × Int × Int × Int × Int × Int × Int × Int × Int × Int × Int × Int × Int × Int × Int × Int × Int := (o, c, Wd (f 0).a, Wd (f 0).b, Wd (f 0).c, Wd (f 0).d, Wd (f 1).a, Wd (f 1).b, Wd (f 1).c, Wd (f 1).d, Wd (f 2).a, Wd (f 2).b, Wd (f 2).c, Wd (f 2).d, Wd (f 3).a, Wd (f 3).b, Wd (f 3).c, Wd (f 3).d, Wd (f 4).a, Wd (f 4).b, Wd (f 4).c, Wd (f 4).d, Wd (f 5).a, Wd (f 5).b, Wd (f 5).c, Wd (f 5).d, Wd (f 6).a, Wd (f 6).b, Wd (f 6).c, Wd (f 6).d, Wd (f 7).a, Wd (f 7).b, Wd (f 7).c, Wd (f 7).d)
theorem sg_run (hx : Nx x y next) (hn : n ≤ 24) (hl8 : x.length ≤ 8) (he : ∀ e ∈ y, EdgeIn n x.length e) (l : List Int) (hl : (l.length : Int) = n) (m : Int) (y' : List Q0) (z : List Q1) {s : Int} (s0 : 0 ≤ s) (s1 : s < n) :
 Q22.f s l m x y' z (some ⟨n, holds, next⟩) = some (O34' (some ⟨n, holds, next⟩) (gt l s) (sgF hx l s x.length)) := by
 have h := sg_l0 (holds := holds) hx hn hl8 he l hl s x.length 0 (by decide) (by omega)
 rw [sgF_zero] at h
 have h' : Q22.l0 s l x (some ⟨n, holds, next⟩) 0 0 0 0 0 0 0 0 0 0 0 0 0 0 0 0 0 0 0 0 0 0 0 0 0 0 0 0 0 0 0 0 0 = some (.inl (O33 (some ⟨n, holds, next⟩) (sgF hx l s x.length))) := h
 unfold Q22.f
 rw [if_pos ⟨s0, by omega⟩, h', Q10]
 rfl
theorem num_run (hx : Nx x y next) (hn0 : 0 ≤ n) (hn : n ≤ 24) (hl8 : x.length ≤ 8) (he : ∀ e ∈ y, EdgeIn n x.length e) (l : List Int) (hl : (l.length : Int) = n) (m : Int) (y' : List Q0) (z : List Q1) :
 ∃ l', Q49.f n l m x y' z (some ⟨n, holds, next⟩) = some (l', some ⟨n, holds, next⟩) ∧ NumBy (fun s => sgK (gt l s) (sgF hx l s x.length)) n l' := by
 have hlen : (((List.replicate n.toNat (0 : Int)).length : Nat) : Int) = n := by simp; omega
 obtain ⟨r, hr, l', mp, rfl, hi⟩ := Q25 (body := fun t_ : (List Int) × (List (Q18 × Int)) × (Option Q2) × Int => Q49.l0b n l m x y' z t_.1 t_.2.1 t_.2.2.1 t_.2.2.2)
  (fun s => s.2.2.1 = some ⟨n, holds, next⟩ ∧ 0 ≤ s.2.2.2 ∧ s.2.2.2 ≤ n ∧ NInv (fun s => sgK (gt l s) (sgF hx l s x.length)) n s.2.2.2 s.1 s.2.1)
  (fun r => ∃ l' mp, r = .inl (l', mp, some ⟨n, holds, next⟩) ∧ NInv (fun s => sgK (gt l s) (sgF hx l s x.length)) n n l' mp) (fun s => (n - s.2.2.2).toNat) (fun ⟨a, mp, o, i⟩ ⟨h1, h2, h3, h4⟩ => by
   dsimp only at h1 h2 h3 h4 ⊢
   subst h1
   by_cases hi : i < n
   ·right
    have hs := sg_run (holds := holds) hx hn hl8 he l hl m y' z h2 hi
    have hw : IntKind.i64.wrap (i + 1) = i + 1 := wrap64 (by omega) (by omega)
    cases hm : mget mp (sgK (gt l i) (sgF hx l i x.length)) with
    | some v =>
     refine ⟨(st a i v, mp, some ⟨n, holds, next⟩, i + 1), ?_, ⟨rfl, by dsimp only; omega, by dsimp only; omega, h4.hit h2 hi hm⟩, by dsimp only; omega⟩
     unfold Q49.l0b
     rw [hlen, if_pos hi, hs, Option.bind_some]
     have hk : mget mp (⟨(O34' (some ⟨n, holds, next⟩ : Option Q2) (gt l i) (sgF hx l i x.length)).2.1, ⟨⟨(O34' (some ⟨n, holds, next⟩ : Option Q2) (gt l i) (sgF hx l i x.length)).2.2.1, (O34' (some ⟨n, holds, next⟩ : Option Q2) (gt l i) (sgF hx l i x.length)).2.2.2.1, (O34' (some ⟨n, holds, next⟩ : Option Q2) (gt l i) (sgF hx l i x.length)).2.2.2.2.1, (O34' (some ⟨n, holds, next⟩ : Option Q2) (gt l i) (sgF hx l i x.length)).2.2.2.2.2.1⟩, ⟨(O34' (some ⟨n, holds, next⟩ : Option Q2) (gt l i) (sgF hx l i x.length)).2.2.2.2.2.2.1, (O34' (some ⟨n, holds, next⟩ : Option Q2) (gt l i) (sgF hx l i x.length)).2.2.2.2.2.2.2.1, (O34' (some ⟨n, holds, next⟩ : Option Q2) (gt l i) (sgF hx l i x.length)).2.2.2.2.2.2.2.2.1, (O34' (some ⟨n, holds, next⟩ : Option Q2) (gt l i) (sgF hx l i x.length)).2.2.2.2.2.2.2.2.2.1⟩, ⟨(O34' (some ⟨n, holds, next⟩ : Option Q2) (gt l i) (sgF hx l i x.length)).2.2.2.2.2.2.2.2.2.2.1, (O34' (some ⟨n, holds, next⟩ : Option Q2) (gt l i) (sgF hx l i x.length)).2.2.2.2.2.2.2.2.2.2.2.1, (O34' (some ⟨n, holds, next⟩ : Option Q2) (gt l i) (sgF hx l i x.length)).2.2.2.2.2.2.2.2.2.2.2.2.1, (O34' (some ⟨n, holds, next⟩ : Option Q2) (gt l i) (sgF hx l i x.length)).2.2.2.2.2.2.2.2.2.2.2.2.2.1⟩, ⟨(O34' (some ⟨n, holds, next⟩ : Option Q2) (gt l i) (sgF hx l i x.length)).2.2.2.2.2.2.2.2.2.2.2.2.2.2.1, (O34' (some ⟨n, holds, next⟩ : Option Q2) (gt l i) (sgF hx l i x.length)).2.2.2.2.2.2.2.2.2.2.2.2.2.2.2.1, (O34' (some ⟨n, holds, next⟩ : Option Q2) (gt l i) (sgF hx l i x.length)).2.2.2.2.2.2.2.2.2.2.2.2.2.2.2.2.1, (O34' (some ⟨n, holds, next⟩ : Option Q2) (gt l i) (sgF hx l i x.length)).2.2.2.2.2.2.2.2.2.2.2.2.2.2.2.2.2.1⟩, ⟨(O34' (some ⟨n, holds, next⟩ : Option Q2) (gt l i) (sgF hx l i x.length)).2.2.2.2.2.2.2.2.2.2.2.2.2.2.2.2.2.2.1, (O34' (some ⟨n, holds, next⟩ : Option Q2) (gt l i) (sgF hx l i x.length)).2.2.2.2.2.2.2.2.2.2.2.2.2.2.2.2.2.2.2.1, (O34' (some ⟨n, holds, next⟩ : Option Q2) (gt l i) (sgF hx l i x.length)).2.2.2.2.2.2.2.2.2.2.2.2.2.2.2.2.2.2.2.2.1, (O34' (some ⟨n, holds, next⟩ : Option Q2) (gt l i) (sgF hx l i x.length)).2.2.2.2.2.2.2.2.2.2.2.2.2.2.2.2.2.2.2.2.2.1⟩, ⟨(O34' (some ⟨n, holds, next⟩ : Option Q2) (gt l i) (sgF hx l i x.length)).2.2.2.2.2.2.2.2.2.2.2.2.2.2.2.2.2.2.2.2.2.2.1, (O34' (some ⟨n, holds, next⟩ : Option Q2) (gt l i) (sgF hx l i x.length)).2.2.2.2.2.2.2.2.2.2.2.2.2.2.2.2.2.2.2.2.2.2.2.1, (O34' (some ⟨n, holds, next⟩ : Option Q2) (gt l i) (sgF hx l i x.length)).2.2.2.2.2.2.2.2.2.2.2.2.2.2.2.2.2.2.2.2.2.2.2.2.1, (O34' (some ⟨n, holds, next⟩ : Option Q2) (gt l i) (sgF hx l i x.length)).2.2.2.2.2.2.2.2.2.2.2.2.2.2.2.2.2.2.2.2.2.2.2.2.2.1⟩, ⟨(O34' (some ⟨n, holds, next⟩ : Option Q2) (gt l i) (sgF hx l i x.length)).2.2.2.2.2.2.2.2.2.2.2.2.2.2.2.2.2.2.2.2.2.2.2.2.2.2.1, (O34' (some ⟨n, holds, next⟩ : Option Q2) (gt l i) (sgF hx l i x.length)).2.2.2.2.2.2.2.2.2.2.2.2.2.2.2.2.2.2.2.2.2.2.2.2.2.2.2.1, (O34' (some ⟨n, holds, next⟩ : Option Q2) (gt l i) (sgF hx l i x.length)).2.2.2.2.2.2.2.2.2.2.2.2.2.2.2.2.2.2.2.2.2.2.2.2.2.2.2.2.1, (O34' (some ⟨n, holds, next⟩ : Option Q2) (gt l i) (sgF hx l i x.length)).2.2.2.2.2.2.2.2.2.2.2.2.2.2.2.2.2.2.2.2.2.2.2.2.2.2.2.2.2.1⟩, ⟨(O34' (some ⟨n, holds, next⟩ : Option Q2) (gt l i) (sgF hx l i x.length)).2.2.2.2.2.2.2.2.2.2.2.2.2.2.2.2.2.2.2.2.2.2.2.2.2.2.2.2.2.2.1, (O34' (some ⟨n, holds, next⟩ : Option Q2) (gt l i) (sgF hx l i x.length)).2.2.2.2.2.2.2.2.2.2.2.2.2.2.2.2.2.2.2.2.2.2.2.2.2.2.2.2.2.2.2.1, (O34' (some ⟨n, holds, next⟩ : Option Q2) (gt l i) (sgF hx l i x.length)).2.2.2.2.2.2.2.2.2.2.2.2.2.2.2.2.2.2.2.2.2.2.2.2.2.2.2.2.2.2.2.2.1, (O34' (some ⟨n, holds, next⟩ : Option Q2) (gt l i) (sgF hx l i x.length)).2.2.2.2.2.2.2.2.2.2.2.2.2.2.2.2.2.2.2.2.2.2.2.2.2.2.2.2.2.2.2.2.2⟩⟩⟩ : Q18) = some v := hm
     rw [hk]
     simp only [Option.isSome_some, if_true, Option.getD_some, if_pos (show (0 : Int) ≤ i ∧ i < n from ⟨h2, hi⟩), Q10, hw]
     rfl
    | none =>
     refine ⟨(st a i (mp.length : Int), mset mp (sgK (gt l i) (sgF hx l i x.length)) (mp.length : Int), some ⟨n, holds, next⟩, i + 1), ?_, ⟨rfl, by dsimp only; omega, by dsimp only; omega, h4.new h2 hi hm⟩, by dsimp only; omega⟩
     unfold Q49.l0b
     rw [hlen, if_pos hi, hs, Option.bind_some]
     have hk : mget mp (⟨(O34' (some ⟨n, holds, next⟩ : Option Q2) (gt l i) (sgF hx l i x.length)).2.1, ⟨⟨(O34' (some ⟨n, holds, next⟩ : Option Q2) (gt l i) (sgF hx l i x.length)).2.2.1, (O34' (some ⟨n, holds, next⟩ : Option Q2) (gt l i) (sgF hx l i x.length)).2.2.2.1, (O34' (some ⟨n, holds, next⟩ : Option Q2) (gt l i) (sgF hx l i x.length)).2.2.2.2.1, (O34' (some ⟨n, holds, next⟩ : Option Q2) (gt l i) (sgF hx l i x.length)).2.2.2.2.2.1⟩, ⟨(O34' (some ⟨n, holds, next⟩ : Option Q2) (gt l i) (sgF hx l i x.length)).2.2.2.2.2.2.1, (O34' (some ⟨n, holds, next⟩ : Option Q2) (gt l i) (sgF hx l i x.length)).2.2.2.2.2.2.2.1, (O34' (some ⟨n, holds, next⟩ : Option Q2) (gt l i) (sgF hx l i x.length)).2.2.2.2.2.2.2.2.1, (O34' (some ⟨n, holds, next⟩ : Option Q2) (gt l i) (sgF hx l i x.length)).2.2.2.2.2.2.2.2.2.1⟩, ⟨(O34' (some ⟨n, holds, next⟩ : Option Q2) (gt l i) (sgF hx l i x.length)).2.2.2.2.2.2.2.2.2.2.1, (O34' (some ⟨n, holds, next⟩ : Option Q2) (gt l i) (sgF hx l i x.length)).2.2.2.2.2.2.2.2.2.2.2.1, (O34' (some ⟨n, holds, next⟩ : Option Q2) (gt l i) (sgF hx l i x.length)).2.2.2.2.2.2.2.2.2.2.2.2.1, (O34' (some ⟨n, holds, next⟩ : Option Q2) (gt l i) (sgF hx l i x.length)).2.2.2.2.2.2.2.2.2.2.2.2.2.1⟩, ⟨(O34' (some ⟨n, holds, next⟩ : Option Q2) (gt l i) (sgF hx l i x.length)).2.2.2.2.2.2.2.2.2.2.2.2.2.2.1, (O34' (some ⟨n, holds, next⟩ : Option Q2) (gt l i) (sgF hx l i x.length)).2.2.2.2.2.2.2.2.2.2.2.2.2.2.2.1, (O34' (some ⟨n, holds, next⟩ : Option Q2) (gt l i) (sgF hx l i x.length)).2.2.2.2.2.2.2.2.2.2.2.2.2.2.2.2.1, (O34' (some ⟨n, holds, next⟩ : Option Q2) (gt l i) (sgF hx l i x.length)).2.2.2.2.2.2.2.2.2.2.2.2.2.2.2.2.2.1⟩, ⟨(O34' (some ⟨n, holds, next⟩ : Option Q2) (gt l i) (sgF hx l i x.length)).2.2.2.2.2.2.2.2.2.2.2.2.2.2.2.2.2.2.1, (O34' (some ⟨n, holds, next⟩ : Option Q2) (gt l i) (sgF hx l i x.length)).2.2.2.2.2.2.2.2.2.2.2.2.2.2.2.2.2.2.2.1, (O34' (some ⟨n, holds, next⟩ : Option Q2) (gt l i) (sgF hx l i x.length)).2.2.2.2.2.2.2.2.2.2.2.2.2.2.2.2.2.2.2.2.1, (O34' (some ⟨n, holds, next⟩ : Option Q2) (gt l i) (sgF hx l i x.length)).2.2.2.2.2.2.2.2.2.2.2.2.2.2.2.2.2.2.2.2.2.1⟩, ⟨(O34' (some ⟨n, holds, next⟩ : Option Q2) (gt l i) (sgF hx l i x.length)).2.2.2.2.2.2.2.2.2.2.2.2.2.2.2.2.2.2.2.2.2.2.1, (O34' (some ⟨n, holds, next⟩ : Option Q2) (gt l i) (sgF hx l i x.length)).2.2.2.2.2.2.2.2.2.2.2.2.2.2.2.2.2.2.2.2.2.2.2.1, (O34' (some ⟨n, holds, next⟩ : Option Q2) (gt l i) (sgF hx l i x.length)).2.2.2.2.2.2.2.2.2.2.2.2.2.2.2.2.2.2.2.2.2.2.2.2.1, (O34' (some ⟨n, holds, next⟩ : Option Q2) (gt l i) (sgF hx l i x.length)).2.2.2.2.2.2.2.2.2.2.2.2.2.2.2.2.2.2.2.2.2.2.2.2.2.1⟩, ⟨(O34' (some ⟨n, holds, next⟩ : Option Q2) (gt l i) (sgF hx l i x.length)).2.2.2.2.2.2.2.2.2.2.2.2.2.2.2.2.2.2.2.2.2.2.2.2.2.2.1, (O34' (some ⟨n, holds, next⟩ : Option Q2) (gt l i) (sgF hx l i x.length)).2.2.2.2.2.2.2.2.2.2.2.2.2.2.2.2.2.2.2.2.2.2.2.2.2.2.2.1, (O34' (some ⟨n, holds, next⟩ : Option Q2) (gt l i) (sgF hx l i x.length)).2.2.2.2.2.2.2.2.2.2.2.2.2.2.2.2.2.2.2.2.2.2.2.2.2.2.2.2.1, (O34' (some ⟨n, holds, next⟩ : Option Q2) (gt l i) (sgF hx l i x.length)).2.2.2.2.2.2.2.2.2.2.2.2.2.2.2.2.2.2.2.2.2.2.2.2.2.2.2.2.2.1⟩, ⟨(O34' (some ⟨n, holds, next⟩ : Option Q2) (gt l i) (sgF hx l i x.length)).2.2.2.2.2.2.2.2.2.2.2.2.2.2.2.2.2.2.2.2.2.2.2.2.2.2.2.2.2.2.1, (O34' (some ⟨n, holds, next⟩ : Option Q2) (gt l i) (sgF hx l i x.length)).2.2.2.2.2.2.2.2.2.2.2.2.2.2.2.2.2.2.2.2.2.2.2.2.2.2.2.2.2.2.2.1, (O34' (some ⟨n, holds, next⟩ : Option Q2) (gt l i) (sgF hx l i x.length)).2.2.2.2.2.2.2.2.2.2.2.2.2.2.2.2.2.2.2.2.2.2.2.2.2.2.2.2.2.2.2.2.1, (O34' (some ⟨n, holds, next⟩ : Option Q2) (gt l i) (sgF hx l i x.length)).2.2.2.2.2.2.2.2.2.2.2.2.2.2.2.2.2.2.2.2.2.2.2.2.2.2.2.2.2.2.2.2.2⟩⟩⟩ : Q18) = none := hm
     have hk2 : mget (mset mp (⟨(O34' (some ⟨n, holds, next⟩ : Option Q2) (gt l i) (sgF hx l i x.length)).2.1, ⟨⟨(O34' (some ⟨n, holds, next⟩ : Option Q2) (gt l i) (sgF hx l i x.length)).2.2.1, (O34' (some ⟨n, holds, next⟩ : Option Q2) (gt l i) (sgF hx l i x.length)).2.2.2.1, (O34' (some ⟨n, holds, next⟩ : Option Q2) (gt l i) (sgF hx l i x.length)).2.2.2.2.1, (O34' (some ⟨n, holds, next⟩ : Option Q2) (gt l i) (sgF hx l i x.length)).2.2.2.2.2.1⟩, ⟨(O34' (some ⟨n, holds, next⟩ : Option Q2) (gt l i) (sgF hx l i x.length)).2.2.2.2.2.2.1, (O34' (some ⟨n, holds, next⟩ : Option Q2) (gt l i) (sgF hx l i x.length)).2.2.2.2.2.2.2.1, (O34' (some ⟨n, holds, next⟩ : Option Q2) (gt l i) (sgF hx l i x.length)).2.2.2.2.2.2.2.2.1, (O34' (some ⟨n, holds, next⟩ : Option Q2) (gt l i) (sgF hx l i x.length)).2.2.2.2.2.2.2.2.2.1⟩, ⟨(O34' (some ⟨n, holds, next⟩ : Option Q2) (gt l i) (sgF hx l i x.length)).2.2.2.2.2.2.2.2.2.2.1, (O34' (some ⟨n, holds, next⟩ : Option Q2) (gt l i) (sgF hx l i x.length)).2.2.2.2.2.2.2.2.2.2.2.1, (O34' (some ⟨n, holds, next⟩ : Option Q2) (gt l i) (sgF hx l i x.length)).2.2.2.2.2.2.2.2.2.2.2.2.1, (O34' (some ⟨n, holds, next⟩ : Option Q2) (gt l i) (sgF hx l i x.length)).2.2.2.2.2.2.2.2.2.2.2.2.2.1⟩, ⟨(O34' (some ⟨n, holds, next⟩ : Option Q2) (gt l i) (sgF hx l i x.length)).2.2.2.2.2.2.2.2.2.2.2.2.2.2.1, (O34' (some ⟨n, holds, next⟩ : Option Q2) (gt l i) (sgF hx l i x.length)).2.2.2.2.2.2.2.2.2.2.2.2.2.2.2.1, (O34' (some ⟨n, holds, next⟩ : Option Q2) (gt l i) (sgF hx l i x.length)).2.2.2.2.2.2.2.2.2.2.2.2.2.2.2.2.1, (O34' (some ⟨n, holds, next⟩ : Option Q2) (gt l i) (sgF hx l i x.length)).2.2.2.2.2.2.2.2.2.2.2.2.2.2.2.2.2.1⟩, ⟨(O34' (some ⟨n, holds, next⟩ : Option Q2) (gt l i) (sgF hx l i x.length)).2.2.2.2.2.2.2.2.2.2.2.2.2.2.2.2.2.2.1, (O34' (some ⟨n, holds, next⟩ : Option Q2) (gt l i) (sgF hx l i x.length)).2.2.2.2.2.2.2.2.2.2.2.2.2.2.2.2.2.2.2.1, (O34' (some ⟨n, holds, next⟩ : Option Q2) (gt l i) (sgF hx l i x.length)).2.2.2.2.2.2.2.2.2.2.2.2.2.2.2.2.2.2.2.2.1, (O34' (some ⟨n, holds, next⟩ : Option Q2) (gt l i) (sgF hx l i x.length)).2.2.2.2.2.2.2.2.2.2.2.2.2.2.2.2.2.2.2.2.2.1⟩, ⟨(O34' (some ⟨n, holds, next⟩ : Option Q2) (gt l i) (sgF hx l i x.length)).2.2.2.2.2.2.2.2.2.2.2.2.2.2.2.2.2.2.2.2.2.2.1, (O34' (some ⟨n, holds, next⟩ : Option Q2) (gt l i) (sgF hx l i x.length)).2.2.2.2.2.2.2.2.2.2.2.2.2.2.2.2.2.2.2.2.2.2.2.1, (O34' (some ⟨n, holds, next⟩ : Option Q2) (gt l i) (sgF hx l i x.length)).2.2.2.2.2.2.2.2.2.2.2.2.2.2.2.2.2.2.2.2.2.2.2.2.1, (O34' (some ⟨n, holds, next⟩ : Option Q2) (gt l i) (sgF hx l i x.length)).2.2.2.2.2.2.2.2.2.2.2.2.2.2.2.2.2.2.2.2.2.2.2.2.2.1⟩, ⟨(O34' (some ⟨n, holds, next⟩ : Option Q2) (gt l i) (sgF hx l i x.length)).2.2.2.2.2.2.2.2.2.2.2.2.2.2.2.2.2.2.2.2.2.2.2.2.2.2.1, (O34' (some ⟨n, holds, next⟩ : Option Q2) (gt l i) (sgF hx l i x.length)).2.2.2.2.2.2.2.2.2.2.2.2.2.2.2.2.2.2.2.2.2.2.2.2.2.2.2.1, (O34' (some ⟨n, holds, next⟩ : Option Q2) (gt l i) (sgF hx l i x.length)).2.2.2.2.2.2.2.2.2.2.2.2.2.2.2.2.2.2.2.2.2.2.2.2.2.2.2.2.1, (O34' (some ⟨n, holds, next⟩ : Option Q2) (gt l i) (sgF hx l i x.length)).2.2.2.2.2.2.2.2.2.2.2.2.2.2.2.2.2.2.2.2.2.2.2.2.2.2.2.2.2.1⟩, ⟨(O34' (some ⟨n, holds, next⟩ : Option Q2) (gt l i) (sgF hx l i x.length)).2.2.2.2.2.2.2.2.2.2.2.2.2.2.2.2.2.2.2.2.2.2.2.2.2.2.2.2.2.2.1, (O34' (some ⟨n, holds, next⟩ : Option Q2) (gt l i) (sgF hx l i x.length)).2.2.2.2.2.2.2.2.2.2.2.2.2.2.2.2.2.2.2.2.2.2.2.2.2.2.2.2.2.2.2.1, (O34' (some ⟨n, holds, next⟩ : Option Q2) (gt l i) (sgF hx l i x.length)).2.2.2.2.2.2.2.2.2.2.2.2.2.2.2.2.2.2.2.2.2.2.2.2.2.2.2.2.2.2.2.2.1, (O34' (some ⟨n, holds, next⟩ : Option Q2) (gt l i) (sgF hx l i x.length)).2.2.2.2.2.2.2.2.2.2.2.2.2.2.2.2.2.2.2.2.2.2.2.2.2.2.2.2.2.2.2.2.2⟩⟩⟩ : Q18) (mp.length : Int)) (⟨(O34' (some ⟨n, holds, next⟩ : Option Q2) (gt l i) (sgF hx l i x.length)).2.1, ⟨⟨(O34' (some ⟨n, holds, next⟩ : Option Q2) (gt l i) (sgF hx l i x.length)).2.2.1, (O34' (some ⟨n, holds, next⟩ : Option Q2) (gt l i) (sgF hx l i x.length)).2.2.2.1, (O34' (some ⟨n, holds, next⟩ : Option Q2) (gt l i) (sgF hx l i x.length)).2.2.2.2.1, (O34' (some ⟨n, holds, next⟩ : Option Q2) (gt l i) (sgF hx l i x.length)).2.2.2.2.2.1⟩, ⟨(O34' (some ⟨n, holds, next⟩ : Option Q2) (gt l i) (sgF hx l i x.length)).2.2.2.2.2.2.1, (O34' (some ⟨n, holds, next⟩ : Option Q2) (gt l i) (sgF hx l i x.length)).2.2.2.2.2.2.2.1, (O34' (some ⟨n, holds, next⟩ : Option Q2) (gt l i) (sgF hx l i x.length)).2.2.2.2.2.2.2.2.1, (O34' (some ⟨n, holds, next⟩ : Option Q2) (gt l i) (sgF hx l i x.length)).2.2.2.2.2.2.2.2.2.1⟩, ⟨(O34' (some ⟨n, holds, next⟩ : Option Q2) (gt l i) (sgF hx l i x.length)).2.2.2.2.2.2.2.2.2.2.1, (O34' (some ⟨n, holds, next⟩ : Option Q2) (gt l i) (sgF hx l i x.length)).2.2.2.2.2.2.2.2.2.2.2.1, (O34' (some ⟨n, holds, next⟩ : Option Q2) (gt l i) (sgF hx l i x.length)).2.2.2.2.2.2.2.2.2.2.2.2.1, (O34' (some ⟨n, holds, next⟩ : Option Q2) (gt l i) (sgF hx l i x.length)).2.2.2.2.2.2.2.2.2.2.2.2.2.1⟩, ⟨(O34' (some ⟨n, holds, next⟩ : Option Q2) (gt l i) (sgF hx l i x.length)).2.2.2.2.2.2.2.2.2.2.2.2.2.2.1, (O34' (some ⟨n, holds, next⟩ : Option Q2) (gt l i) (sgF hx l i x.length)).2.2.2.2.2.2.2.2.2.2.2.2.2.2.2.1, (O34' (some ⟨n, holds, next⟩ : Option Q2) (gt l i) (sgF hx l i x.length)).2.2.2.2.2.2.2.2.2.2.2.2.2.2.2.2.1, (O34' (some ⟨n, holds, next⟩ : Option Q2) (gt l i) (sgF hx l i x.length)).2.2.2.2.2.2.2.2.2.2.2.2.2.2.2.2.2.1⟩, ⟨(O34' (some ⟨n, holds, next⟩ : Option Q2) (gt l i) (sgF hx l i x.length)).2.2.2.2.2.2.2.2.2.2.2.2.2.2.2.2.2.2.1, (O34' (some ⟨n, holds, next⟩ : Option Q2) (gt l i) (sgF hx l i x.length)).2.2.2.2.2.2.2.2.2.2.2.2.2.2.2.2.2.2.2.1, (O34' (some ⟨n, holds, next⟩ : Option Q2) (gt l i) (sgF hx l i x.length)).2.2.2.2.2.2.2.2.2.2.2.2.2.2.2.2.2.2.2.2.1, (O34' (some ⟨n, holds, next⟩ : Option Q2) (gt l i) (sgF hx l i x.length)).2.2.2.2.2.2.2.2.2.2.2.2.2.2.2.2.2.2.2.2.2.1⟩, ⟨(O34' (some ⟨n, holds, next⟩ : Option Q2) (gt l i) (sgF hx l i x.length)).2.2.2.2.2.2.2.2.2.2.2.2.2.2.2.2.2.2.2.2.2.2.1, (O34' (some ⟨n, holds, next⟩ : Option Q2) (gt l i) (sgF hx l i x.length)).2.2.2.2.2.2.2.2.2.2.2.2.2.2.2.2.2.2.2.2.2.2.2.1, (O34' (some ⟨n, holds, next⟩ : Option Q2) (gt l i) (sgF hx l i x.length)).2.2.2.2.2.2.2.2.2.2.2.2.2.2.2.2.2.2.2.2.2.2.2.2.1, (O34' (some ⟨n, holds, next⟩ : Option Q2) (gt l i) (sgF hx l i x.length)).2.2.2.2.2.2.2.2.2.2.2.2.2.2.2.2.2.2.2.2.2.2.2.2.2.1⟩, ⟨(O34' (some ⟨n, holds, next⟩ : Option Q2) (gt l i) (sgF hx l i x.length)).2.2.2.2.2.2.2.2.2.2.2.2.2.2.2.2.2.2.2.2.2.2.2.2.2.2.1, (O34' (some ⟨n, holds, next⟩ : Option Q2) (gt l i) (sgF hx l i x.length)).2.2.2.2.2.2.2.2.2.2.2.2.2.2.2.2.2.2.2.2.2.2.2.2.2.2.2.1, (O34' (some ⟨n, holds, next⟩ : Option Q2) (gt l i) (sgF hx l i x.length)).2.2.2.2.2.2.2.2.2.2.2.2.2.2.2.2.2.2.2.2.2.2.2.2.2.2.2.2.1, (O34' (some ⟨n, holds, next⟩ : Option Q2) (gt l i) (sgF hx l i x.length)).2.2.2.2.2.2.2.2.2.2.2.2.2.2.2.2.2.2.2.2.2.2.2.2.2.2.2.2.2.1⟩, ⟨(O34' (some ⟨n, holds, next⟩ : Option Q2) (gt l i) (sgF hx l i x.length)).2.2.2.2.2.2.2.2.2.2.2.2.2.2.2.2.2.2.2.2.2.2.2.2.2.2.2.2.2.2.1, (O34' (some ⟨n, holds, next⟩ : Option Q2) (gt l i) (sgF hx l i x.length)).2.2.2.2.2.2.2.2.2.2.2.2.2.2.2.2.2.2.2.2.2.2.2.2.2.2.2.2.2.2.2.1, (O34' (some ⟨n, holds, next⟩ : Option Q2) (gt l i) (sgF hx l i x.length)).2.2.2.2.2.2.2.2.2.2.2.2.2.2.2.2.2.2.2.2.2.2.2.2.2.2.2.2.2.2.2.2.1, (O34' (some ⟨n, holds, next⟩ : Option Q2) (gt l i) (sgF hx l i x.length)).2.2.2.2.2.2.2.2.2.2.2.2.2.2.2.2.2.2.2.2.2.2.2.2.2.2.2.2.2.2.2.2.2⟩⟩⟩ : Q18) = some (mp.length : Int) := by rw [Q148, if_pos rfl]
     rw [hk, hk2]
     simp only [Option.isSome_none, Bool.false_eq_true, if_false, Option.getD_some, if_pos (show (0 : Int) ≤ i ∧ i < n from ⟨h2, hi⟩), Q10, hw]
     rfl
   ·left
    have hin : i = n := by omega
    subst hin
    refine ⟨.inl (a, mp, some ⟨i, holds, next⟩), ?_, a, mp, rfl, h4⟩
    unfold Q49.l0b
    rw [hlen, if_neg hi]
    rfl) (List.replicate n.toNat 0, [], some ⟨n, holds, next⟩, 0) ⟨rfl, Int.le_refl _, hn0, NInv.zero hlen⟩
 refine ⟨l', ?_, hi.fin⟩
 unfold Q49.f
 have hl0 : Q49.l0 n l m x y' z (List.replicate n.toNat 0) [] (some ⟨n, holds, next⟩) 0 = some (.inl (l', mp, some ⟨n, holds, next⟩)) := hr
 rw [if_pos (by omega), hl0, Q10]
end
end Go.Bw
namespace Go.Bw
open Go Go.RowKit

theorem Q115 {ρ : Type} {body : Int → Option (Int ⊕ (Unit ⊕ ρ))} {N : Int} {p : Int → Prop} {bad : ρ} (hN : N ≤ 9223372036854775807) (k0 : Int) (h0 : 0 ≤ k0)
 (h : ∀ i, k0 ≤ i → i < N → (p i ∧ body i = some (.inl (IntKind.i64.wrap (i + 1)))) ∨ (¬ p i ∧ body i = some (.inr (.inr bad)))) (he : ∀ i, ¬ i < N → body i = some (.inr (.inl ()))) :
 (iter body k0 = some (.inl ()) ∧ ∀ i, k0 ≤ i → i < N → p i) ∨ (iter body k0 = some (.inr bad) ∧ ∃ i, k0 ≤ i ∧ i < N ∧ ¬ p i) := by
 obtain ⟨r, hr, hq⟩ := Q25 (body := body) (fun i => k0 ≤ i ∧ ∀ j, k0 ≤ j → j < i → p j) (fun r => (r = .inl () ∧ ∀ i, k0 ≤ i → i < N → p i) ∨ (r = .inr bad ∧ ∃ i, k0 ≤ i ∧ i < N ∧ ¬ p i)) (fun i => (N - i).toNat) (fun i ⟨h1, h2⟩ => by
  by_cases hi : i < N
  ·rcases h i h1 hi with ⟨hp, hb⟩ | ⟨hp, hb⟩
   ·right
    rw [wrap64 (by omega) (by omega)] at hb
    refine ⟨_, hb, ⟨by omega, fun j j0 j1 => ?_⟩, by omega⟩
    by_cases hj : j = i
    ·subst hj; exact hp
    ·exact h2 j j0 (by omega)
   ·left; exact ⟨_, hb, .inr ⟨rfl, i, h1, hi, hp⟩⟩
  ·left; exact ⟨_, he i hi, .inl ⟨rfl, fun j j0 j1 => h2 j j0 (by omega)⟩⟩) k0 ⟨Int.le_refl _, fun j j0 j1 => by omega⟩
 rcases hq with ⟨rfl, hq⟩ | ⟨rfl, hq⟩
 ·exact .inl ⟨hr, hq⟩
 ·exact .inr ⟨hr, hq⟩
def OkB (c : Int) : Prop := 97 ≤ c ∧ c ≤ 122 ∨ 65 ≤ c ∧ c ≤ 90 ∨ 48 ≤ c ∧ c ≤ 57 ∨ c = 95
theorem rune_run (r : Int) : ∃ b, Q94.f r = some b ∧ (b = true ↔ ¬ OkB r) := by
 obtain ⟨b, hb⟩ := rune_name r
 refine ⟨b, hb, ?_⟩
 unfold Q94.f at hb
 unfold OkB
 by_cases h1 : 97 ≤ r <;> by_cases h2 : 65 ≤ r <;> by_cases h3 : 48 ≤ r <;> simp [h1, h2, h3, jn] at hb <;> (try omega) <;>
  (by_cases h4 : r ≤ 122 <;> by_cases h5 : r ≤ 90 <;> by_cases h6 : r ≤ 57 <;> by_cases h7 : r = 95 <;> simp [h4, h5, h6, h7] at hb <;> first | omega | (subst hb; simp; omega))
theorem rune_low {s : Bs} {k : Nat} (hk : k < s.length) (h : bat s k < 128) : runeAt s k = bat s k ∧ runeLen s k = 1 := by
 have hg : ((ByteArray.mk s.toArray).get! k).toNat = (s.getD k 0).toNat := by
  simp [ByteArray.get!, List.getD_eq_getElem?_getD, hk]
 have h' : (s.getD k 0).toNat < 128 := by
  have : bat s k = ((s.getD k 0).toNat : Int) := by simp [bat]
  omega
 unfold runeAt runeLen Utf8.decode
 simp only [Nat.add_zero, hg, if_pos (show (s.getD k 0).toNat < 0x80 from h')]
 simp [bat]
theorem rune_high {s : Bs} {k : Nat} (hk : k < s.length) (h : 128 ≤ bat s k) : 128 ≤ runeAt s k := by
 have hg : ((ByteArray.mk s.toArray).get! k).toNat = (s.getD k 0).toNat := by
  simp [ByteArray.get!, List.getD_eq_getElem?_getD, hk]
 have h' : ¬ (s.getD k 0).toNat < 0x80 := by
  have : bat s k = ((s.getD k 0).toNat : Int) := by simp [bat]
  omega
 unfold runeAt Utf8.decode
 simp only [Nat.add_zero, hg, if_neg h']
 have e : (Utf8.runeError : Nat) = 65533 := rfl
 repeat' split
 all_goals try dsimp only
 all_goals first
  | omega
  | (rename_i hc; simp only [Bool.and_eq_true, decide_eq_true_eq] at hc; omega)
  | (rw [e]; omega)
theorem okB_low {c : Int} (h : OkB c) : c < 128 := by unfold OkB at h; omega
def NameS (s : Bs) : Prop := 1 ≤ s.length ∧ s.length ≤ 8 ∧ 97 ≤ bat s 0 ∧ bat s 0 ≤ 122 ∧ s ≠ [116, 116] ∧ s ≠ [102, 102] ∧ s ≠ [109, 117] ∧ s ≠ [110, 117] ∧ ∀ i : Int, 0 ≤ i → i < (s.length : Int) → OkB (bat s i)
theorem Q317 (s : Bs) : ∃ b, Q110.f s = some b ∧ (b = true ↔ ¬ ∀ i : Int, 0 ≤ i → i < (s.length : Int) → OkB (bat s i)) := by
 obtain ⟨r, hr, hq⟩ := Q25 (body := fun t_ : Nat => Q60.l0b s true t_) (fun k => ∀ i : Int, 0 ≤ i → i < (k : Int) → i < (s.length : Int) → OkB (bat s i))
  (fun r => (∃ k, r = .inl k ∧ ∀ i : Int, 0 ≤ i → i < (s.length : Int) → OkB (bat s i)) ∨ ∃ k : Nat, r = .inr (k : Int) ∧ ¬ ∀ i : Int, 0 ≤ i → i < (s.length : Int) → OkB (bat s i)) (fun k => s.length - k) (fun k hI => by
   unfold Q60.l0b
   by_cases hk : k < s.length
   ·obtain ⟨b, hb, hb2⟩ := rune_run (runeAt s k)
    rw [if_pos hk, hb]
    simp only [Option.bind_some]
    by_cases hl : bat s k < 128
    ·obtain ⟨e1, e2⟩ := rune_low hk hl
     rw [e1] at hb2
     rw [e2]
     cases b with
     | true =>
      left
      refine ⟨_, rfl, .inr ⟨k, rfl, fun hall => hb2.1 rfl (hall k (by omega) (by omega))⟩⟩
     | false =>
      right
      have hok : OkB (bat s k) := Classical.not_not.1 fun h => by have := hb2.2 h; cases this
      refine ⟨_, rfl, fun i i0 i1 i2 => ?_, by omega⟩
      by_cases hi : i = (k : Int)
      ·subst hi; exact hok
      ·exact hI i i0 (by omega) i2
    ·have hh := rune_high hk (by omega)
     have hbt : b = true := hb2.2 fun h => by have := okB_low h; omega
     subst hbt
     left
     exact ⟨_, rfl, .inr ⟨k, rfl, fun hall => by have := okB_low (hall k (by omega) (by omega)); omega⟩⟩
   ·left; rw [if_neg hk]; exact ⟨_, rfl, .inl ⟨k, rfl, fun i i0 i1 => hI i i0 (by omega) i1⟩⟩) 0 (fun i i0 i1 => by omega)
 unfold Q110.f Q125.f Q60.f Q60.l0
 rw [hr]
 rcases hq with ⟨k, rfl, hq⟩ | ⟨k, rfl, hq⟩
 ·exact ⟨false, rfl, by simp; exact hq⟩
 ·exact ⟨true, by simp [jn], by simp only [true_iff]; exact hq⟩
end Go.Bw
namespace Go.Bw
open Go Go.RowKit

theorem Q154 {x : Option (Unit ⊕ Bool)} {p : Prop} (h : (x = some (.inl ()) ∧ p) ∨ (x = some (.inr false) ∧ ¬ p)) : ∃ b, jn x (fun _ => some true) = some b ∧ (b = true ↔ p) := by
 rcases h with ⟨rfl, h⟩ | ⟨rfl, h⟩
 ·exact ⟨true, rfl, by simp [h]⟩
 ·exact ⟨false, rfl, by simp [h]⟩
theorem Q291 (s : Bs) : ∃ b, Q82.f s = some b ∧ (b = true ↔ NameS s) := by
 obtain ⟨c, hc, hc2⟩ := Q317 s
 unfold Q82.f NameS
 by_cases h1 : (s.length : Int) < 1
 ·exact ⟨false, by simp [h1, jn], by simp; omega⟩
 by_cases h2 : 8 < (s.length : Int)
 ·exact ⟨false, by simp [h1, h2, jn], by simp; omega⟩
 have h0 : (0 : Int) ≤ 0 ∧ 0 < (s.length : Int) := by omega
 simp only [if_neg h1, Q10, decide_eq_false h2, Bool.false_eq_true, if_false, if_pos h0]
 by_cases h3 : bat s 0 < 97
 ·exact ⟨false, by simp [h3, jn], by simp; omega⟩
 by_cases h4 : 122 < bat s 0
 ·exact ⟨false, by simp [h3, h4, jn], by simp; omega⟩
 simp only [decide_eq_false h3, decide_eq_false h4, Bool.false_eq_true, if_false, Q10, Q65, hc, Option.bind_some]
 by_cases k1 : s = [116, 116]
 ·exact ⟨false, by simp [k1], by simp [k1]⟩
 by_cases k2 : s = [102, 102]
 ·exact ⟨false, by simp [k2], by simp [k2]⟩
 by_cases k3 : s = [109, 117]
 ·exact ⟨false, by simp [k3], by simp [k3]⟩
 by_cases k4 : s = [110, 117]
 ·exact ⟨false, by simp [k4], by simp [k4]⟩
 refine ⟨!c, by simp [k1, k2, k3, k4], ?_⟩
 have hc3 : (!c) = true ↔ ∀ i : Int, 0 ≤ i → i < (s.length : Int) → OkB (bat s i) := by
  cases c with
  | true => simp only [Bool.not_true, Bool.false_eq_true, false_iff]; exact hc2.1 rfl
  | false =>
   simp only [Bool.not_false, true_iff]
   exact Classical.not_not.1 fun h => by have := hc2.2 h; cases this
 rw [hc3]
 exact ⟨fun h => ⟨by omega, by omega, by omega, by omega, k1, k2, k3, k4, h⟩, fun h => h.2.2.2.2.2.2.2.2⟩
theorem Q311 (s : Bs) (hs : s.length ≤ 8) : (Q50.l0 s 0 = some (.inl ()) ∧ ∀ i : Int, 0 ≤ i → i < (s.length : Int) → OkB (bat s i)) ∨ (Q50.l0 s 0 = some (.inr false) ∧ ∃ i : Int, 0 ≤ i ∧ i < (s.length : Int) ∧ ¬ OkB (bat s i)) := by
 refine Q115 (body := fun t_ : Int => Q50.l0b s t_) (N := s.length) (p := fun i => OkB (bat s i)) (by omega) 0 (by decide) (fun i h0 h1 => ?_) (fun i h => by simp only [Q50.l0b]; rw [if_neg h]; rfl)
 simp only [Q50.l0b]
 rw [if_pos h1, if_pos ⟨h0, h1⟩]
 generalize bat s i = c
 unfold OkB
 by_cases a1 : 97 ≤ c <;> by_cases a2 : 65 ≤ c <;> by_cases a3 : 48 ≤ c <;> simp [a1, a2, a3, jn, nx, upL] <;> (try omega) <;>
  (by_cases h4 : c ≤ 122 <;> by_cases h5 : c ≤ 90 <;> by_cases h6 : c ≤ 57 <;> by_cases h7 : c = 95 <;> simp [h4, h5, h6, h7] <;> omega)
theorem Q332 (s : Bs) : ∃ b, Q50.f s = some b ∧ (b = true ↔ NameS s) := by
 unfold Q50.f NameS
 by_cases h1 : (s.length : Int) < 1
 ·exact ⟨false, by simp [h1, jn], by simp; omega⟩
 by_cases h2 : 8 < (s.length : Int)
 ·exact ⟨false, by simp [h1, h2, jn], by simp; omega⟩
 have h0 : (0 : Int) ≤ 0 ∧ 0 < (s.length : Int) := by omega
 simp only [if_neg h1, Q10, decide_eq_false h2, Bool.false_eq_true, if_false, if_pos h0]
 by_cases h3 : bat s 0 < 97
 ·exact ⟨false, by simp [h3, jn], by simp; omega⟩
 by_cases h4 : 122 < bat s 0
 ·exact ⟨false, by simp [h3, h4, jn], by simp; omega⟩
 have bz : ∀ t : Bs, s ≠ t → bseq s t = false := fun t h => Bool.eq_false_iff.2 fun hc => h (Q65.1 hc)
 by_cases k1 : s = [116, 116]
 ·exact ⟨false, by rw [Q65.2 k1]; simp [h3, h4, jn], by simp [k1]⟩
 by_cases k2 : s = [102, 102]
 ·exact ⟨false, by rw [bz _ k1, Q65.2 k2]; simp [h3, h4, jn], by simp [k2]⟩
 by_cases k3 : s = [109, 117]
 ·exact ⟨false, by rw [bz _ k1, bz _ k2, Q65.2 k3]; simp [h3, h4, jn], by simp [k3]⟩
 by_cases k4 : s = [110, 117]
 ·exact ⟨false, by rw [bz _ k1, bz _ k2, bz _ k3, Q65.2 k4]; simp [h3, h4, jn], by simp [k4]⟩
 rw [bz _ k1, bz _ k2, bz _ k3, bz _ k4]
 simp only [decide_eq_false h3, decide_eq_false h4, Bool.false_eq_true, if_false, Q10]
 rcases Q311 s (by omega) with ⟨hl, hq⟩ | ⟨hl, i, i0, i1, i2⟩
 ·exact ⟨true, by rw [hl]; rfl, by simp only [true_iff]; exact ⟨by omega, by omega, by omega, by omega, k1, k2, k3, k4, hq⟩⟩
 ·exact ⟨false, by rw [hl]; rfl, by simp only [Bool.false_eq_true, false_iff]; exact fun h => i2 (h.2.2.2.2.2.2.2.2 i i0 i1)⟩
def Rise {α : Type} [Inhabited α] (lt : α → α → Prop) (a : List α) : Prop := ∀ i : Int, 1 ≤ i → i < (a.length : Int) → lt (gt a (i - 1)) (gt a i)
theorem Q333 (a : List Int) (ha : (a.length : Int) ≤ 9223372036854775807) : ∃ b, Q56.f a = some b ∧ (b = true ↔ Rise (· < ·) a) := by
 refine Q154 ?_
 rcases Q115 (body := fun t_ : Int => Q56.l0b a t_) (N := a.length) (p := fun i => gt a (i - 1) < gt a i) (bad := false) ha 1 (by decide) (fun i h0 h1 => by
  simp only [Q56.l0b]
  rw [if_pos h1, wrap64 (x := i - 1) (by omega) (by omega), if_pos (by omega), if_pos (by omega), Q251]
  simp only [Option.bind_some]
  by_cases hp : gt a (i - 1) < gt a i
  ·left; rw [if_neg (by have := Q157.2 hp; omega)]; exact ⟨hp, rfl⟩
  ·right; rw [if_pos (by have : ¬ cmp3 (gt a (i - 1)) (gt a i) < 0 := fun h => hp (Q157.1 h); omega)]; exact ⟨hp, rfl⟩) (fun i h => by simp only [Q56.l0b]; rw [if_neg h]; rfl) with ⟨h, q⟩ | ⟨h, i, i0, i1, i2⟩
 ·exact .inl ⟨h, q⟩
 ·exact .inr ⟨h, fun hr => i2 (hr i i0 i1)⟩
def BLt (x y : Bs) : Prop := Lib.compareBytes x y < 0
theorem Q310 (a : List Bs) (ha : (a.length : Int) ≤ 9223372036854775807) : ∃ b, Q57.f a = some b ∧ (b = true ↔ Rise BLt a) := by
 refine Q154 ?_
 rcases Q115 (body := fun t_ : Int => Q57.l0b a t_) (N := a.length) (p := fun i => BLt (gt a (i - 1)) (gt a i)) (bad := false) ha 1 (by decide) (fun i h0 h1 => by
  simp only [Q57.l0b]
  rw [if_pos h1, wrap64 (x := i - 1) (by omega) (by omega), if_pos (by omega), if_pos (by omega)]
  simp only [Q92.f, Q106.f, Option.bind_some]
  by_cases hp : BLt (gt a (i - 1)) (gt a i)
  ·left; rw [if_neg (by unfold BLt at hp; omega)]; exact ⟨hp, rfl⟩
  ·right; rw [if_pos (by unfold BLt at hp; omega)]; exact ⟨hp, rfl⟩) (fun i h => by simp only [Q57.l0b]; rw [if_neg h]; rfl) with ⟨h, q⟩ | ⟨h, i, i0, i1, i2⟩
 ·exact .inl ⟨h, q⟩
 ·exact .inr ⟨h, fun hr => i2 (hr i i0 i1)⟩
theorem Q312 (a : List Q1) (ha : (a.length : Int) ≤ 9223372036854775807) : ∃ b, Q64.f a = some b ∧ (b = true ↔ Rise (fun p q => BLt p.Name q.Name) a) := by
 refine Q154 ?_
 rcases Q115 (body := fun t_ : Int => Q64.l0b a t_) (N := a.length) (p := fun i => BLt (gt a (i - 1)).Name (gt a i).Name) (bad := false) ha 1 (by decide) (fun i h0 h1 => by
  simp only [Q64.l0b]
  rw [if_pos h1, wrap64 (x := i - 1) (by omega) (by omega), if_pos (by omega), if_pos (by omega)]
  simp only [Q103.f, Q92.f, Q106.f, Option.bind_some]
  by_cases hp : BLt (gt a (i - 1)).Name (gt a i).Name
  ·left; rw [if_neg (by unfold BLt at hp; omega)]; exact ⟨hp, rfl⟩
  ·right; rw [if_pos (by unfold BLt at hp; omega)]; exact ⟨hp, rfl⟩) (fun i h => by simp only [Q64.l0b]; rw [if_neg h]; rfl) with ⟨h, q⟩ | ⟨h, i, i0, i1, i2⟩
 ·exact .inl ⟨h, q⟩
 ·exact .inr ⟨h, fun hr => i2 (hr i i0 i1)⟩
theorem Q316 (a : List Q0) (ha : (a.length : Int) ≤ 9223372036854775807) : ∃ b, Q62.f a = some b ∧ (b = true ↔ Rise edgeLt a) := by
 refine Q154 ?_
 rcases Q115 (body := fun t_ : Int => Q62.l0b a t_) (N := a.length) (p := fun i => edgeLt (gt a (i - 1)) (gt a i)) (bad := false) ha 1 (by decide) (fun i h0 h1 => by
  simp only [Q62.l0b]
  rw [if_pos h1, wrap64 (x := i - 1) (by omega) (by omega), if_pos (by omega), if_pos (by omega), Q279]
  simp only [Option.bind_some]
  by_cases hp : edgeLt (gt a (i - 1)) (gt a i)
  ·left; rw [if_neg (by have := Q200.2 hp; omega)]; exact ⟨hp, rfl⟩
  ·right; rw [if_pos (by have : ¬ edgeCmp (gt a (i - 1)) (gt a i) < 0 := fun h => hp (Q200.1 h); omega)]; exact ⟨hp, rfl⟩) (fun i h => by simp only [Q62.l0b]; rw [if_neg h]; rfl) with ⟨h, q⟩ | ⟨h, i, i0, i1, i2⟩
 ·exact .inl ⟨h, q⟩
 ·exact .inr ⟨h, fun hr => i2 (hr i i0 i1)⟩
end Go.Bw
namespace Go.Bw
open Go Go.RowKit

theorem less_cb : ∀ (x y : Bs), Op.bytesLess x y = true ↔ BLt x y
 | [], [] => by simp [Op.bytesLess, BLt, Lib.compareBytes]
 | [], _ :: _ => by simp [Op.bytesLess, BLt, Lib.compareBytes]
 | _ :: _, [] => by simp [Op.bytesLess, BLt, Lib.compareBytes]
 | a :: x, b :: y => by
  have ih := less_cb x y
  unfold BLt at ih
  unfold Op.bytesLess BLt Lib.compareBytes
  by_cases h1 : a < b
  ·simp [h1]
  ·by_cases h2 : b < a
   ·have : a ≠ b := fun h => by subst h; exact UInt8.lt_irrefl a h2
    simp [h1, h2, this]
   ·have : a = b := UInt8.le_antisymm (UInt8.not_lt.1 h2) (UInt8.not_lt.1 h1)
    subst this
    simp [h1, ih]
theorem Q230 {x y : Bs} : bslt x y = true ↔ BLt x y := by
 unfold bslt slt
 exact less_cb x y
theorem Q284 (a : List Bs) (ha : (a.length : Int) ≤ 9223372036854775807) : ∃ b, Q51.f a = some b ∧ (b = true ↔ (∀ s ∈ a, NameS s) ∧ Rise BLt a) := by
 refine Q154 ?_
 have key := Q115 (body := fun t_ : Int => Q51.l0b a t_) (N := a.length) (p := fun i => NameS (gt a i) ∧ (0 < i → BLt (gt a (i - 1)) (gt a i))) (bad := false) ha 0 (by decide) (fun i h0 h1 => by
  simp only [Q51.l0b]
  obtain ⟨b, hb, hb2⟩ := Q332 (gt a i)
  rw [if_pos h1, if_pos ⟨h0, h1⟩, hb]
  simp only [Option.bind_some]
  cases b with
  | false => right; exact ⟨fun h => (by have := hb2.2 h.1; cases this), by simp [jn, upL]⟩
  | true =>
   have hn := hb2.1 rfl
   by_cases hi : 0 < i
   ·rw [wrap64 (x := i - 1) (by omega) (by omega)]
    have hc : (0 : Int) ≤ i - 1 ∧ i - 1 < (a.length : Int) := by omega
    have hi' : 1 ≤ i := by omega
    by_cases hl : BLt (gt a (i - 1)) (gt a i)
    ·left; refine ⟨⟨hn, fun _ => hl⟩, ?_⟩
     simp [hi, hi', hc, Q230.2 hl, jn, nx]
    ·right; refine ⟨fun h => hl (h.2 hi), ?_⟩
     have : bslt (gt a (i - 1)) (gt a i) = false := Bool.eq_false_iff.2 fun h => hl (Q230.1 h)
     simp [hi, hi', hc, this, jn, upL]
   ·left; refine ⟨⟨hn, fun h => absurd h hi⟩, ?_⟩
    simp [hi, jn, nx]) (fun i h => by simp only [Q51.l0b]; rw [if_neg h]; rfl)
 have hiff : (∀ i : Int, 0 ≤ i → i < (a.length : Int) → NameS (gt a i) ∧ (0 < i → BLt (gt a (i - 1)) (gt a i))) ↔ (∀ s ∈ a, NameS s) ∧ Rise BLt a := by
  constructor
  ·intro h
   refine ⟨fun s hs => ?_, fun i i0 i1 => (h i (by omega) i1).2 (by omega)⟩
   obtain ⟨k, hk, rfl⟩ := List.getElem_of_mem hs
   have := (h k (by omega) (by omega)).1
   rwa [Q88 (List.getElem?_eq_getElem hk)] at this
  ·rintro ⟨h1, h2⟩ i i0 i1
   exact ⟨h1 _ (Q32 i0 i1), fun h => h2 i (by omega) i1⟩
 rcases key with ⟨h, q⟩ | ⟨h, i, i0, i1, i2⟩
 ·exact .inl ⟨h, hiff.1 q⟩
 ·exact .inr ⟨h, fun hr => i2 (hiff.2 hr i i0 i1)⟩
theorem names_iff (a : List Bs) (ha : (a.length : Int) ≤ 9223372036854775807) : ∃ b, Q109.f a = some b ∧ (b = true ↔ ¬ ∀ s ∈ a, NameS s) := by
 -- all that is passed is a name
 have key := Q25 (body := fun t_ : Int => Q63.l0b a t_) (fun i => 0 ≤ i ∧ ∀ j : Int, 0 ≤ j → j < i → j < (a.length : Int) → NameS (gt a j)) (fun r => r = .inl () ∧ (∀ s ∈ a, NameS s) ∨ ∃ k : Int, 0 ≤ k ∧ r = .inr k ∧ ¬ ∀ s ∈ a, NameS s) (fun i => ((a.length : Int) - i).toNat) (fun i ⟨h0, h2⟩ => by
  unfold Q63.l0b Q121.f
  by_cases h1 : i < (a.length : Int)
  ·obtain ⟨c, hc, hc2⟩ := Q291 (gt a i)
   rw [if_pos h1, if_pos ⟨h0, h1⟩, hc]
   simp only [Option.bind_some]
   cases c with
   | true =>
    right
    rw [wrap64 (x := i + 1) (by omega) (by omega)]
    refine ⟨_, rfl, ⟨by omega, fun j j0 j1 j2 => ?_⟩, by omega⟩
    by_cases hj : j = i
    ·subst hj; exact hc2.1 rfl
    ·exact h2 j j0 (by omega) j2
   | false => left; exact ⟨_, rfl, .inr ⟨i, h0, rfl, fun h => by have := hc2.2 (h _ (Q32 h0 h1)); cases this⟩⟩
  ·left; rw [if_neg h1]
   refine ⟨_, rfl, .inl ⟨rfl, fun s hs => ?_⟩⟩
   obtain ⟨k, hk, rfl⟩ := List.getElem_of_mem hs
   have := h2 k (by omega) (by omega) (by omega)
   rwa [Q88 (List.getElem?_eq_getElem hk)] at this) 0 ⟨Int.le_refl _, fun j j0 j1 => by omega⟩
 obtain ⟨r', hr', hq'⟩ := key
 unfold Q109.f Q63.f Q63.l0
 rw [hr']
 rcases hq' with ⟨rfl, h⟩ | ⟨k, k0, rfl, h⟩
 ·exact ⟨false, rfl, by simp; exact h⟩
 ·exact ⟨true, by simp [jn, k0], by simp only [true_iff]; exact h⟩
def StatesS (n : Int) (a : List Int) : Prop := (∀ s ∈ a, 0 ≤ s ∧ s < n) ∧ Rise (· < ·) a
theorem inS_iff (a : List Int) (n : Int) (x : List Bs) (y : List Q0) (z : List Q1) (ha : (a.length : Int) ≤ 9223372036854775807) : ∃ b, Q117.f a n x y z = some b ∧ (b = true ↔ ¬ ∀ s ∈ a, 0 ≤ s ∧ s < n) := by
 have key := Q25 (body := fun t_ : Int => Q59.l0b a n x y z t_) (fun i => 0 ≤ i ∧ ∀ j : Int, 0 ≤ j → j < i → j < (a.length : Int) → 0 ≤ gt a j ∧ gt a j < n) (fun r => r = .inl () ∧ (∀ s ∈ a, 0 ≤ s ∧ s < n) ∨ ∃ k : Int, 0 ≤ k ∧ r = .inr k ∧ ¬ ∀ s ∈ a, 0 ≤ s ∧ s < n) (fun i => ((a.length : Int) - i).toNat) (fun i ⟨h0, h2⟩ => by
  unfold Q59.l0b Q120.f
  by_cases h1 : i < (a.length : Int)
  ·rw [if_pos h1, if_pos ⟨h0, h1⟩, in_run]
   simp only [Option.bind_some]
   by_cases hp : 0 ≤ gt a i ∧ gt a i < n
   ·right
    rw [wrap64 (x := i + 1) (by omega) (by omega)]
    refine ⟨i + 1, by simp [hp, nx], ⟨by omega, fun j j0 j1 j2 => ?_⟩, by omega⟩
    by_cases hj : j = i
    ·subst hj; exact hp
    ·exact h2 j j0 (by omega) j2
   ·left; exact ⟨.inr i, by simp [hp, upL], .inr ⟨i, h0, rfl, fun h => hp (h _ (Q32 h0 h1))⟩⟩
  ·left; rw [if_neg h1]
   refine ⟨_, rfl, .inl ⟨rfl, fun s hs => ?_⟩⟩
   obtain ⟨k, hk, rfl⟩ := List.getElem_of_mem hs
   have := h2 k (by omega) (by omega) (by omega)
   rwa [Q88 (List.getElem?_eq_getElem hk)] at this) 0 ⟨Int.le_refl _, fun j j0 j1 => by omega⟩
 obtain ⟨r', hr', hq'⟩ := key
 unfold Q117.f Q59.f Q59.l0
 rw [hr']
 rcases hq' with ⟨rfl, h⟩ | ⟨k, k0, rfl, h⟩
 ·exact ⟨false, rfl, by simp; exact h⟩
 ·exact ⟨true, by simp [jn, k0], by simp only [true_iff]; exact h⟩
end Go.Bw
namespace Go.Bw
open Go Go.RowKit

def W8 (v : BitVec 8) : Int := (v.toNat : Int)
theorem Q165 (v : BitVec 8) : BitVec.ofInt 8 (W8 v) = v := by
 unfold W8
 apply BitVec.eq_of_toNat_eq
 simp
theorem W8.inj {u v : BitVec 8} (h : W8 u = W8 v) : u = v := by rw [← Q165 u, h, Q165]
theorem wrap8 {x : Int} (h0 : 0 ≤ x) (h1 : x < 256) : IntKind.u8.wrap x = x := by
 simp [IntKind.wrap, IntKind.bits, IntKind.signed]
 omega
theorem wrap_w8 (v : BitVec 8) : IntKind.u8.wrap (v.toNat : Int) = W8 v := by
 have := v.isLt
 exact wrap8 (by omega) (by omega)
theorem bor_w8 (u v : BitVec 8) : bor .u8 (W8 u) (W8 v) = W8 (u ||| v) := by
 show IntKind.u8.wrap ((BitVec.ofInt 8 (W8 u) ||| BitVec.ofInt 8 (W8 v)).toNat : Int) = _
 rw [Q165, Q165, wrap_w8]
theorem shl8 {k : Int} (h0 : 0 ≤ k) (h1 : k < 8) : Bw.shl .u8 1 k = W8 (BitVec.twoPow 8 k.toNat) := by
 obtain ⟨m, rfl⟩ := Int.eq_ofNat_of_zero_le h0
 have hm : m < 8 := by omega
 match m, hm with
 | 0, _ => rfl
 | 1, _ => rfl
 | 2, _ => rfl
 | 3, _ => rfl
 | 4, _ => rfl
 | 5, _ => rfl
 | 6, _ => rfl
 | 7, _ => rfl
def full8 (m : Nat) : BitVec 8 := BitVec.allOnes 8 >>> (8 - m)
theorem full_run {m : Nat} (hm : m ≤ 8) : IntKind.u8.wrap (Bw.shl .u8 1 (m : Int) - 1) = W8 (full8 m) := by
 match m, hm with
 | 0, _ => rfl
 | 1, _ => rfl
 | 2, _ => rfl
 | 3, _ => rfl
 | 4, _ => rfl
 | 5, _ => rfl
 | 6, _ => rfl
 | 7, _ => rfl
 | 8, _ => rfl
theorem Q286 {m k : Nat} (hm : m ≤ 8) (hk : k < 8) : (full8 m).getLsbD k = decide (k < m) := by
 unfold full8
 rw [BitVec.getLsbD_ushiftRight, BitVec.getLsbD_allOnes]
 rw [decide_eq_decide]
 omega
def UsedS (m : Nat) (y : List Q0) : Prop := ∀ k : Int, 0 ≤ k → k < (m : Int) → ∃ e ∈ y, e.Action = k
def Mask (v : BitVec 8) (y : List Q0) : Prop := ∀ k : Nat, k < 8 → (v.getLsbD k = true ↔ ∃ e ∈ y, e.Action = (k : Int))
theorem Q261 {v : BitVec 8} {y : List Q0} {n : Int} {m : Nat} (hv : Mask v y) (hm : m ≤ 8) (he : ∀ e ∈ y, EdgeIn n m e) : v = full8 m ↔ UsedS m y := by
 constructor
 ·rintro rfl k k0 k1
  have := (hv k.toNat (by omega)).1 (by rw [Q286 hm (by omega)]; simp; omega)
  obtain ⟨e, h1, h2⟩ := this
  exact ⟨e, h1, by omega⟩
 ·intro h
  apply BitVec.eq_of_getLsbD_eq
  intro k hk
  rw [Q286 hm hk, Bool.eq_iff_iff, hv k hk, decide_eq_true_eq]
  constructor
  ·rintro ⟨e, h1, h2⟩
   have := (he e h1).2.2.2.2.2
   omega
  ·intro hkm
   exact h k (by omega) (by omega)
theorem edges_iff (n : Int) (x : List Bs) (y : List Q0) (z : List Q1) (hy : (y.length : Int) ≤ 9223372036854775807) (hx : x.length ≤ 8) :
 (∃ v, Q29.l0 n x y z 0 0 = some (.inl (W8 v)) ∧ Mask v y ∧ ∀ e ∈ y, EdgeIn n x.length e) ∨ (Q29.l0 n x y z 0 0 = some (.inr false) ∧ ¬ ∀ e ∈ y, EdgeIn n x.length e) := by
 obtain ⟨r, hr, hq⟩ := Q25 (body := fun t_ : Int × Int => Q29.l0b n x y z t_.1 t_.2) (fun s => 0 ≤ s.2 ∧ s.2 ≤ (y.length : Int) ∧ (∀ e ∈ y.take s.2.toNat, EdgeIn n x.length e) ∧ ∃ v, s.1 = W8 v ∧ Mask v (y.take s.2.toNat))
  (fun r => (∃ v, r = .inl (W8 v) ∧ Mask v y ∧ ∀ e ∈ y, EdgeIn n x.length e) ∨ (r = .inr false ∧ ¬ ∀ e ∈ y, EdgeIn n x.length e)) (fun s => ((y.length : Int) - s.2).toNat) (fun ⟨u, i⟩ ⟨h0, h1, h2, v, h3, h4⟩ => by
   dsimp only at h0 h1 h2 h3 h4 ⊢
   subst h3
   unfold Q29.l0b
   by_cases hi : i < (y.length : Int)
   ·have hm := Q32 h0 hi
    rw [if_pos hi, if_pos ⟨h0, hi⟩, in_run, in_run]
    simp only [Option.bind_some]
    by_cases e1 : 0 ≤ (gt y i).From ∧ (gt y i).From < n
    ·by_cases e2 : 0 ≤ (gt y i).To ∧ (gt y i).To < n
     ·by_cases e3 : (gt y i).Action < 0
      ·left; exact ⟨_, by simp [e1, e2, e3, jn, upL], .inr ⟨rfl, fun h => by have := (h _ hm).2.2.2.2.1; omega⟩⟩
      ·by_cases e4 : (x.length : Int) ≤ (gt y i).Action
       ·left; exact ⟨_, by simp [e1, e2, e3, e4, jn, upL], .inr ⟨rfl, fun h => by have := (h _ hm).2.2.2.2.2; omega⟩⟩
       ·right
        have e5 : 0 ≤ (gt y i).Action := by omega
        have hw : IntKind.i64.wrap (i + 1) = i + 1 := wrap64 (by omega) (by omega)
        have ht : y.take (i + 1).toNat = y.take i.toNat ++ [gt y i] := by
         rw [show (i + 1).toNat = i.toNat + 1 from by omega, List.take_add_one, Q40 h0 hi]; rfl
        refine ⟨(W8 (v ||| BitVec.twoPow 8 (gt y i).Action.toNat), i + 1), by simp [e1, e2, e3, e4, e5, jn, nx, hw, shl8 e5 (by omega), bor_w8], ⟨by dsimp only; omega, by dsimp only; omega, fun e he => ?_, _, rfl, fun k hk => ?_⟩, by dsimp only; omega⟩
        ·dsimp only at he
         rw [ht] at he
         rcases List.mem_append.1 he with he | he
         ·exact h2 e he
         ·simp at he; subst he
          exact ⟨e1.1, e1.2, e2.1, e2.2, e5, by omega⟩
        ·dsimp only
         rw [ht, BitVec.getLsbD_or, Bool.or_eq_true, h4 k hk, BitVec.getLsbD_twoPow]
         constructor
         ·rintro (⟨e, a, b⟩ | h)
          ·exact ⟨e, by simp [a], b⟩
          ·simp at h
           exact ⟨gt y i, by simp, by omega⟩
         ·rintro ⟨e, a, b⟩
          rcases List.mem_append.1 a with a | a
          ·exact .inl ⟨e, a, b⟩
          ·simp at a
           subst a
           right
           simp
           omega
     ·left; exact ⟨_, by simp [e1, e2, jn, upL], .inr ⟨rfl, fun h => e2 ⟨(h _ hm).2.2.1, (h _ hm).2.2.2.1⟩⟩⟩
    ·left; exact ⟨_, by simp [e1, jn, upL], .inr ⟨rfl, fun h => e1 ⟨(h _ hm).1, (h _ hm).2.1⟩⟩⟩
   ·left
    rw [if_neg hi]
    rw [List.take_of_length_le (by omega)] at h2 h4
    exact ⟨_, rfl, .inl ⟨v, rfl, h4, h2⟩⟩) (0, 0) ⟨Int.le_refl _, by dsimp only; omega, by simp, 0#8, rfl, fun k hk => by simp⟩
 rcases hq with ⟨v, rfl, h⟩ | ⟨rfl, h⟩
 ·exact .inl ⟨v, hr, h⟩
 ·exact .inr ⟨hr, h⟩
def PropS (n : Int) (p : Q1) : Prop := NameS p.Name ∧ StatesS n p.States
theorem props_iff (n : Int) (x : List Bs) (y : List Q0) (z : List Q1) (hz : (z.length : Int) ≤ 9223372036854775807) (hs : ∀ p ∈ z, (p.States.length : Int) ≤ 9223372036854775807) :
 (Q29.l1 n x y z 0 = some (.inl ()) ∧ ∀ p ∈ z, PropS n p) ∨ (Q29.l1 n x y z 0 = some (.inr false) ∧ ¬ ∀ p ∈ z, PropS n p) := by
 have key := Q115 (body := fun t_ : Int => Q29.l1b n x y z t_) (N := z.length) (p := fun i => PropS n (gt z i)) (bad := false) hz 0 (by decide) (fun i hi h1 => by
  simp only [Q29.l1b]
  obtain ⟨b1, hb1, c1⟩ := Q291 (gt z i).Name
  obtain ⟨b2, hb2, c2⟩ := Q333 (gt z i).States (hs _ (Q32 hi h1))
  obtain ⟨b3, hb3, c3⟩ := inS_iff (gt z i).States n x y z (hs _ (Q32 hi h1))
  rw [if_pos h1, if_pos ⟨hi, h1⟩, hb1, hb2, hb3]
  unfold PropS StatesS
  rw [← c1, ← c2]
  have c3' : (∀ s ∈ (gt z i).States, 0 ≤ s ∧ s < n) ↔ b3 = false := by
   cases b3 with
   | true => simp only [Bool.true_eq_false, iff_false]; exact c3.1 rfl
   | false => simp only [iff_true]; exact Classical.not_not.1 fun h => by have := c3.2 h; cases this
  rw [c3']
  cases b1 <;> cases b2 <;> cases b3 <;> simp [jn, nx, upL]) (fun i h => by simp only [Q29.l1b]; rw [if_neg h]; rfl)
 have hiff : (∀ i : Int, 0 ≤ i → i < (z.length : Int) → PropS n (gt z i)) ↔ ∀ p ∈ z, PropS n p := by
  constructor
  ·intro h p hp
   obtain ⟨k, hk, rfl⟩ := List.getElem_of_mem hp
   have := h k (by omega) (by omega)
   rwa [Q88 (List.getElem?_eq_getElem hk)] at this
  ·exact fun h i i0 i1 => h _ (Q32 i0 i1)
 rcases key with ⟨h, q⟩ | ⟨h, i, i0, i1, i2⟩
 ·exact .inl ⟨h, hiff.1 q⟩
 ·exact .inr ⟨h, fun hr => i2 (hiff.2 hr i i0 i1)⟩
structure RightS (n : Int) (x : List Bs) (y : List Q0) (z : List Q1) : Prop where
 n0 : 1 ≤ n
 n1 : n ≤ 24
 nx : x.length ≤ 8
 nz : z.length ≤ 8
 ny : y.length ≤ 200
 ed : ∀ e ∈ y, EdgeIn n x.length e
 pr : ∀ p ∈ z, PropS n p
 nm : ∀ s ∈ x, NameS s
 us : UsedS x.length y
 re : Rise edgeLt y
 rx : Rise BLt x
 rz : Rise (fun p q => BLt p.Name q.Name) z
theorem Q215 (n : Int) (x : List Bs) (y : List Q0) (z : List Q1) (hs : ∀ p ∈ z, (p.States.length : Int) ≤ 9223372036854775807) : ∃ b, Q29.f n x y z = some b ∧ (b = true ↔ RightS n x y z) := by
 have no : ∀ {P : Prop}, ¬ P → (false = true ↔ P) := fun h => ⟨fun e => (by cases e), fun p => absurd p h⟩
 unfold Q29.f
 by_cases h1 : n < 1
 ·exact ⟨false, by simp [h1, jn], no fun h => by have := h.n0; omega⟩
 by_cases h2 : 24 < n
 ·exact ⟨false, by simp [h1, h2, jn], no fun h => by have := h.n1; omega⟩
 by_cases h3 : 8 < (x.length : Int)
 ·exact ⟨false, by simp [h1, h2, h3, jn], no fun h => by have := h.nx; omega⟩
 by_cases h4 : 8 < (z.length : Int)
 ·exact ⟨false, by simp [h1, h2, h3, h4, jn], no fun h => by have := h.nz; omega⟩
 by_cases h5 : 200 < (y.length : Int)
 ·exact ⟨false, by simp [h1, h2, h3, h4, h5, jn], no fun h => by have := h.ny; omega⟩
 simp only [if_neg h1, Q10, decide_eq_false h2, decide_eq_false h3, decide_eq_false h4, decide_eq_false h5, Bool.false_eq_true, if_false]
 rcases edges_iff n x y z (by omega) (by omega) with ⟨v, hr, hm, he⟩ | ⟨hr, he⟩
 ·rw [hr, Q10]
  rcases props_iff n x y z (by omega) hs with ⟨hp, hpp⟩ | ⟨hp, hpp⟩
  ·rw [hp, Q10]
   obtain ⟨b1, hb1, c1⟩ := names_iff x (by omega)
   obtain ⟨b2, hb2, c2⟩ := Q316 y (by omega)
   obtain ⟨b3, hb3, c3⟩ := Q310 x (by omega)
   obtain ⟨b4, hb4, c4⟩ := Q312 z (by omega)
   have h0 : (0 : Int) ≤ (x.length : Int) := by omega
   have hu : (W8 v = W8 (full8 x.length)) ↔ UsedS x.length y := ⟨fun h => (Q261 hm (by omega) he).1 (W8.inj h), fun h => by rw [(Q261 hm (by omega) he).2 h]⟩
   simp only [hb1, hb2, hb3, hb4, Option.bind_some, if_pos h0, full_run (show x.length ≤ 8 by omega)]
   by_cases k1 : b1 = true
   ·subst k1
    exact ⟨false, by simp [jn], no fun h => c1.1 rfl h.nm⟩
   ·have k1' : b1 = false := by simpa using k1
    subst k1'
    have hnm : ∀ s ∈ x, NameS s := Classical.not_not.1 fun h => by have := c1.2 h; cases this
    by_cases k2 : W8 v = W8 (full8 x.length)
    ·cases b2 with
     | false => exact ⟨false, by simp [jn, k2], no fun h => by have := c2.2 h.re; cases this⟩
     | true =>
      cases b3 with
      | false => exact ⟨false, by simp [jn, k2], no fun h => by have := c3.2 h.rx; cases this⟩
      | true =>
       cases b4 with
       | false => exact ⟨false, by simp [jn, k2], no fun h => by have := c4.2 h.rz; cases this⟩
       | true => exact ⟨true, by simp [jn, k2], by simp only [true_iff]; exact ⟨by omega, by omega, by omega, by omega, by omega, he, hpp, hnm, hu.1 k2, c2.1 rfl, c3.1 rfl, c4.1 rfl⟩⟩
    ·exact ⟨false, by simp [jn, k2], no fun h => k2 (hu.2 h.us)⟩
  ·rw [hp]
   exact ⟨false, rfl, no fun h => hpp h.pr⟩
 ·rw [hr]
  exact ⟨false, rfl, no fun h => he h.ed⟩
end Go.Bw
namespace Go.Bw
open Go Go.RowKit

theorem rise_ne {z : List Q1} (h : Rise (fun p q => BLt p.Name q.Name) z) {i j : Int} (h0 : 0 ≤ i) (h1 : i < j) (h2 : j < (z.length : Int)) : (gt z i).Name ≠ (gt z j).Name := by
 have key : ∀ k : Nat, i + k + 1 < (z.length : Int) → BLt (gt z i).Name (gt z (i + k + 1)).Name := fun k => by
  induction k with
  | zero =>
   intro hk
   have := h (i + 1) (by omega) (by omega)
   rw [show i + 1 - 1 = i from by omega] at this
   rw [show i + ((0 : Nat) : Int) + 1 = i + 1 from by omega]
   exact this
  | succ k ih =>
   intro hk
   have h3 := ih (by omega)
   have h4 := h (i + (k + 1 : Nat) + 1) (by omega) (by omega)
   rw [show i + ((k + 1 : Nat) : Int) + 1 - 1 = i + k + 1 from by omega] at h4
   exact Q169 h3 h4
 have := key (j - i - 1).toNat (by omega)
 rw [show i + ((j - i - 1).toNat : Int) + 1 = j from by omega] at this
 intro e
 rw [e] at this
 unfold BLt at this
 rw [Q194] at this
 omega
end Go.Bw
namespace Go.Bw
open Go Go.RowKit

def B8 (v : BitVec 8) : Int := (v.toNat : Int)
theorem B8.inj {u v : BitVec 8} (h : B8 u = B8 v) : u = v := by
 apply BitVec.eq_of_toNat_eq
 unfold B8 at h
 omega
theorem b8wrap {x : Int} (h0 : 0 ≤ x) (h1 : x < 256) : IntKind.u8.wrap x = x := by
 simp [IntKind.wrap, IntKind.bits, IntKind.signed]
 omega
theorem Q242 (v : BitVec 8) : BitVec.ofInt 8 (B8 v) = v := by
 unfold B8
 apply BitVec.eq_of_toNat_eq
 simp
theorem bor_B8 (u v : BitVec 8) : bor .u8 (B8 u) (B8 v) = B8 (u ||| v) := by
 show IntKind.u8.wrap ((BitVec.ofInt 8 (B8 u) ||| BitVec.ofInt 8 (B8 v)).toNat : Int) = _
 rw [Q242, Q242]
 have := (u ||| v).isLt
 exact b8wrap (by omega) (by omega)
theorem b8shl : ∀ k : Fin 8, Bw.shl .u8 1 (k.1 : Int) = B8 (BitVec.twoPow 8 k.1) := by decide +kernel
def mk8 (p : Nat → Bool) : Nat → BitVec 8
 | 0 => 0#8
 | m + 1 => if p m = true then mk8 p m ||| BitVec.twoPow 8 m else mk8 p m
theorem Q187 (p : Nat → Bool) : ∀ (m : Nat), m ≤ 8 → ∀ i, i < 8 → (mk8 p m).getLsbD i = (decide (i < m) && p i)
 | 0, _, i, _ => by simp [mk8]
 | m + 1, hm, i, hi => by
  have ih := Q187 p m (by omega) i hi
  unfold mk8
  by_cases hp : p m = true
  ·rw [if_pos hp, BitVec.getLsbD_or, ih, BitVec.getLsbD_twoPow]
   by_cases h : i = m
   ·subst h; simp [hp, hi]
   ·have e1 : decide (i < m + 1) = decide (i < m) := decide_eq_decide.2 (by omega)
    have e2 : decide (m = i) = false := decide_eq_false (fun q => h q.symm)
    rw [e1, e2]; simp
  ·rw [if_neg hp, ih]
   by_cases h : i = m
   ·subst h; simp [hp]
   ·have e1 : decide (i < m + 1) = decide (i < m) := decide_eq_decide.2 (by omega)
    rw [e1]
theorem mk8_iff {p q : Nat → Bool} {m : Nat} (hm : m ≤ 8) : mk8 p m = mk8 q m ↔ ∀ i, i < m → p i = q i := by
 constructor
 ·intro h i hi
  have := congrArg (fun z => z.getLsbD i) h
  simp only [Q187 _ m hm i (by omega), decide_eq_true hi, Bool.true_and] at this
  exact this
 ·intro h
  apply BitVec.eq_of_getLsbD_eq
  intro i hi
  rw [Q187 _ m hm i hi, Q187 _ m hm i hi]
  by_cases h1 : i < m
  ·rw [h i h1]
  ·rw [decide_eq_false h1]; rfl
section
variable {n : Int} {x : List Bs} {y : List Q0} {z : List Q1} {next : List (Q14 × Q5)} {holds : List (Bs × Q5)}
def Hs (z : List Q1) (i : Nat) (s : Int) : Prop := i < z.length ∧ ∃ p ∈ z, p.Name = (gt z i).Name ∧ s ∈ p.States
def Es (x : List Bs) (y : List Q0) (i : Nat) (s t : Int) : Prop := i < x.length ∧ Hit x y ⟨s, gt x i⟩ t
noncomputable def hoW (hh : Hx z holds) (a : Bs) : W4 := (hh a).choose
theorem hoW_rep (hh : Hx z holds) (a : Bs) : (hoW hh a).Rep (fun t => ∃ p ∈ z, p.Name = a ∧ t ∈ p.States) := (hh a).choose_spec.2
theorem hoW_run (hh : Hx z holds) (n : Int) (next : List (Q14 × Q5)) (a : Bs) : Q107.f n holds next a = some (hoW hh a).t := by
 have h := (hh a).choose_spec.1
 unfold Q107.f
 rw [h]
 rfl
noncomputable def hoP (hh : Hx z holds) (s : Int) (i : Nat) : Bool := (hoW hh (gt z i).Name).has s
theorem Q172 (hh : Hx z holds) {s : Int} (s0 : 0 ≤ s) (s1 : s < 256) {i : Nat} (hi : i < z.length) : hoP hh s i = true ↔ Hs z i s := by
 unfold hoP Hs
 rw [hoW_rep hh _ s s0 s1]
 exact ⟨fun h => ⟨hi, h⟩, fun h => h.2⟩
theorem mask_l0 (hh : Hx z holds) (hz : z.length ≤ 8) {s : Int} (s0 : 0 ≤ s) (s1 : s < 256) : ∀ (q i : Nat), i + q = z.length →
 iter (fun t_ : (Option Q2) × Int × Int => Q44.l0b s z t_.1 t_.2.1 t_.2.2) (some ⟨n, holds, next⟩, B8 (mk8 (hoP hh s) i), (i : Int)) = some (.inl (some ⟨n, holds, next⟩, B8 (mk8 (hoP hh s) z.length))) := fun q => by
 induction q with
 | zero =>
  intro i hi
  have : i = z.length := by omega
  subst this
  refine Q156 ?_
  simp only [Q44.l0b]
  rw [if_neg (by omega)]
  rfl
 | succ q ih =>
  intro i hi
  have hlt : (i : Int) < (z.length : Int) := by omega
  have hw : IntKind.i64.wrap ((i : Int) + 1) = ((i + 1 : Nat) : Int) := by rw [wrap64 (by omega) (by omega)]; omega
  have hsh := b8shl ⟨i, by omega⟩
  have hb : Q44.l0b s z (some ⟨n, holds, next⟩) (B8 (mk8 (hoP hh s) i)) (i : Int) = some (.inl (some ⟨n, holds, next⟩, B8 (mk8 (hoP hh s) (i + 1)), ((i + 1 : Nat) : Int))) := by
   unfold Q44.l0b
   rw [if_pos hlt, if_pos ⟨by omega, hlt⟩]
   simp only [Option.isNone_some, if_true, Option.getD_some, hoW_run hh, Option.bind_some, W4.t, has_run, decide_eq_true (show 0 ≤ s ∧ s < 256 from ⟨s0, s1⟩), Bool.true_and]
   have hp : (hoW hh (gt z (i : Int)).Name).has s = hoP hh s i := rfl
   rw [hp]
   by_cases hc : hoP hh s i = true
   ·rw [if_pos hc, if_pos (by omega), Q10, hw, hsh, bor_B8]
    have : mk8 (hoP hh s) (i + 1) = mk8 (hoP hh s) i ||| BitVec.twoPow 8 i := by rw [mk8, if_pos hc]
    rw [this]
    rfl
   ·rw [if_neg hc, Q10, hw]
    have : mk8 (hoP hh s) (i + 1) = mk8 (hoP hh s) i := by rw [mk8, if_neg hc]
    rw [this]
    rfl
  rw [Q150 (body := fun t_ : (Option Q2) × Int × Int => Q44.l0b s z t_.1 t_.2.1 t_.2.2) hb]
  exact ih (i + 1) (by omega)
theorem mask_run (hh : Hx z holds) (hz : z.length ≤ 8) {s : Int} (s0 : 0 ≤ s) (s1 : s < 256) (m : Int) (x' : List Bs) (y' : List Q0) :
 Q44.f s m x' y' z (some ⟨n, holds, next⟩) = some (some ⟨n, holds, next⟩, B8 (mk8 (hoP hh s) z.length)) := by
 have h := mask_l0 (n := n) (next := next) hh hz s0 s1 z.length 0 (by omega)
 have h' : Q44.l0 s z (some ⟨n, holds, next⟩) 0 0 = some (.inl (some ⟨n, holds, next⟩, B8 (mk8 (hoP hh s) z.length))) := h
 unfold Q44.f
 rw [h', Q10]
theorem num8_run (hh : Hx z holds) (hn0 : 0 ≤ n) (hn : n ≤ 24) (hz : z.length ≤ 8) (m : Int) (x' : List Bs) (y' : List Q0) :
 ∃ l', Q52.f n m x' y' z (some ⟨n, holds, next⟩) = some (l', some ⟨n, holds, next⟩) ∧ NumBy (fun s => B8 (mk8 (hoP hh s) z.length)) n l' := by
 have hlen : (((List.replicate n.toNat (0 : Int)).length : Nat) : Int) = n := by simp; omega
 obtain ⟨r, hr, l', mp, rfl, hi⟩ := Q25 (body := fun t_ : (List Int) × (List (Int × Int)) × (Option Q2) × Int => Q52.l0b n m x' y' z t_.1 t_.2.1 t_.2.2.1 t_.2.2.2)
  (fun s => s.2.2.1 = some ⟨n, holds, next⟩ ∧ 0 ≤ s.2.2.2 ∧ s.2.2.2 ≤ n ∧ NInv (fun s => B8 (mk8 (hoP hh s) z.length)) n s.2.2.2 s.1 s.2.1)
  (fun r => ∃ l' mp, r = .inl (l', mp, some ⟨n, holds, next⟩) ∧ NInv (fun s => B8 (mk8 (hoP hh s) z.length)) n n l' mp) (fun s => (n - s.2.2.2).toNat) (fun ⟨a, mp, o, i⟩ ⟨h1, h2, h3, h4⟩ => by
   dsimp only at h1 h2 h3 h4 ⊢
   subst h1
   by_cases hi : i < n
   ·right
    have hs := mask_run (n := n) (next := next) hh hz h2 (by omega) m x' y'
    have hw : IntKind.i64.wrap (i + 1) = i + 1 := wrap64 (by omega) (by omega)
    cases hm : mget mp (B8 (mk8 (hoP hh i) z.length)) with
    | some v =>
     refine ⟨(st a i v, mp, some ⟨n, holds, next⟩, i + 1), ?_, ⟨rfl, by dsimp only; omega, by dsimp only; omega, h4.hit h2 hi hm⟩, by dsimp only; omega⟩
     unfold Q52.l0b
     rw [hlen, if_pos hi, hs, Option.bind_some]
     simp only [hm, Option.isSome_some, if_true, Option.getD_some, if_pos (show (0 : Int) ≤ i ∧ i < n from ⟨h2, hi⟩), Q10, hw]
     rfl
    | none =>
     refine ⟨(st a i (mp.length : Int), mset mp (B8 (mk8 (hoP hh i) z.length)) (mp.length : Int), some ⟨n, holds, next⟩, i + 1), ?_, ⟨rfl, by dsimp only; omega, by dsimp only; omega, h4.new h2 hi hm⟩, by dsimp only; omega⟩
     unfold Q52.l0b
     rw [hlen, if_pos hi, hs, Option.bind_some]
     have hk2 : mget (mset mp (B8 (mk8 (hoP hh i) z.length)) (mp.length : Int)) (B8 (mk8 (hoP hh i) z.length)) = some (mp.length : Int) := by rw [Q148, if_pos rfl]
     simp only [hm, hk2, Option.isSome_none, Bool.false_eq_true, if_false, Option.getD_some, if_pos (show (0 : Int) ≤ i ∧ i < n from ⟨h2, hi⟩), Q10, hw]
     rfl
   ·left
    have hin : i = n := by omega
    subst hin
    refine ⟨.inl (a, mp, some ⟨i, holds, next⟩), ?_, a, mp, rfl, h4⟩
    unfold Q52.l0b
    rw [hlen, if_neg hi]
    rfl) (List.replicate n.toNat 0, [], some ⟨n, holds, next⟩, 0) ⟨rfl, Int.le_refl _, hn0, NInv.zero hlen⟩
 refine ⟨l', ?_, hi.fin⟩
 unfold Q52.f
 have hl0 : Q52.l0 n m x' y' z (List.replicate n.toNat 0) [] (some ⟨n, holds, next⟩) 0 = some (.inl (l', mp, some ⟨n, holds, next⟩)) := hr
 rw [if_pos (by omega), hl0, Q10]
end
end Go.Bw
namespace Go.Bw
open Go Go.RowKit

theorem equal_run {a b : List Int} (hn : a.length = b.length) (ha : (a.length : Int) ≤ 9223372036854775807) : Q53.f a b = some (decide (a = b)) := by
 unfold Q53.f
 rw [if_pos (by omega)]
 obtain ⟨r, hr, hq⟩ := Q25 (body := fun t_ : Int => Q53.l0b a b t_) (fun i => 0 ≤ i ∧ i ≤ (a.length : Int) ∧ ∀ j : Int, 0 ≤ j → j < i → gt a j = gt b j)
  (fun r => (r = .inl () ∧ a = b) ∨ (r = .inr false ∧ a ≠ b)) (fun i => ((a.length : Int) - i).toNat) (fun i ⟨h0, h1, h2⟩ => by
   unfold Q53.l0b
   by_cases hi : i < (a.length : Int)
   ·rw [if_pos hi, if_pos ⟨h0, hi⟩, if_pos ⟨h0, by omega⟩]
    by_cases he : gt a i = gt b i
    ·right
     rw [if_pos he, wrap64 (x := i + 1) (by omega) (by omega)]
     refine ⟨_, rfl, ⟨by omega, by omega, fun j j0 j1 => ?_⟩, by omega⟩
     by_cases hj : j = i
     ·subst hj; exact he
     ·exact h2 j j0 (by omega)
    ·left
     rw [if_neg he]
     exact ⟨_, rfl, .inr ⟨rfl, fun e => he (by rw [e])⟩⟩
   ·left
    rw [if_neg hi]
    exact ⟨_, rfl, .inl ⟨rfl, ext_gt hn fun k hk => h2 k (by omega) (by omega)⟩⟩) 0 ⟨Int.le_refl _, by omega, fun j h0 h1 => by omega⟩
 have hl : Q53.l0 a b 0 = some r := hr
 rcases hq with ⟨rfl, h⟩ | ⟨rfl, h⟩
 ·rw [hl, Q10, decide_eq_true h]
 ·rw [hl, decide_eq_false h]; rfl
theorem putc_rep {u : W4} {S : Int → Prop} (h : u.Rep S) {c : Int} (h0 : 0 ≤ c) (h1 : c < 256) : (putc u c).Rep (fun m => S m ∨ m = c) := by
 unfold putc
 rw [if_pos ⟨h0, h1⟩]
 exact W4.put_rep h h0 h1
theorem Q197 (g : Int → Int) : ∀ {L : List Int} {u : W4} {S : Int → Prop}, u.Rep S → (∀ t ∈ L, 0 ≤ g t ∧ g t < 256) → (L.foldl (fun u t => putc u (g t)) u).Rep (fun c => S c ∨ ∃ t ∈ L, g t = c)
 | [], u, S, h, _ => fun n n0 n1 => by rw [List.foldl_nil, h n n0 n1]; simp
 | t :: L, u, S, h, hg => by
  have h1 := hg t (.head _)
  have ih := Q197 g (L := L) (putc_rep h h1.1 h1.2) fun s hs => hg s (.tail _ hs)
  rw [List.foldl_cons]
  intro n n0 n1
  rw [ih n n0 n1]
  constructor
  ·rintro ((h | h) | ⟨s, a, b⟩)
   ·exact .inl h
   ·exact .inr ⟨t, .head _, h.symm⟩
   ·exact .inr ⟨s, .tail _ a, b⟩
  ·rintro (h | ⟨s, a, b⟩)
   ·exact .inl (.inl h)
   ·rcases List.mem_cons.1 a with rfl | a
    ·exact .inl (.inr b.symm)
    ·exact .inr ⟨s, a, b⟩
theorem s_inj {u v : W4} (h : u.s = v.s) : u = v := by
 unfold W4.s at h
 simp only [Q5.mk.injEq] at h
 obtain ⟨h1, h2, h3, h4⟩ := h
 cases u
 cases v
 simp only [W4.mk.injEq]
 exact ⟨Wd.inj h1, Wd.inj h2, Wd.inj h3, Wd.inj h4⟩
theorem sgK_iff {c d : Int} {f g : Int → W4} : sgK c f = sgK d g ↔ c = d ∧ ∀ j : Int, 0 ≤ j → j < 8 → f j = g j := by
 unfold sgK
 simp only [Q18.mk.injEq, A68.mk.injEq]
 constructor
 ·rintro ⟨h, a, b, c, d, e, f, g, i⟩
  refine ⟨h, fun j j0 j1 => ?_⟩
  have hj : j = 0 ∨ j = 1 ∨ j = 2 ∨ j = 3 ∨ j = 4 ∨ j = 5 ∨ j = 6 ∨ j = 7 := by omega
  rcases hj with rfl | rfl | rfl | rfl | rfl | rfl | rfl | rfl <;> exact s_inj (by assumption)
 ·rintro ⟨h, k⟩
  refine ⟨h, ?_, ?_, ?_, ?_, ?_, ?_, ?_, ?_⟩ <;> (rw [k _ (by decide) (by decide)])
section
variable {n : Int} {x : List Bs} {y : List Q0} {z : List Q1} {next : List (Q14 × Q5)} {holds : List (Bs × Q5)}
theorem Q99 (hn : n ≤ 24) (he : ∀ e ∈ y, EdgeIn n x.length e) : Within n (Es x y) := fun a s t ⟨_, e, h1, h2, h3, _⟩ => by
 have h2' : e.From = s := h2
 have := he e h1
 unfold EdgeIn at this
 omega
theorem Q173 (hx : Nx x y next) (hn : n ≤ 24) (he : ∀ e ∈ y, EdgeIn n x.length e) {l : List Int} (hl : ∀ t : Int, 0 ≤ t → t < n → 0 ≤ gt l t ∧ gt l t < 256) (s : Int) {i : Nat} (hi : i < x.length) :
 (sgF hx l s x.length i).Rep (fun c => ∃ t, Es x y i s t ∧ gt l t = c) := by
 have h := Q197 (gt l) (L := (nxW hx s (gt x i)).list) W4.z_rep (fun t ht => by have := nxW_in hx hn he ht; exact hl t this.1 this.2)
 unfold sgF
 rw [if_pos ⟨by omega, by omega⟩]
 intro c c0 c1
 rw [h c c0 c1]
 constructor
 ·rintro (h | ⟨t, a, b⟩)
  ·exact h.elim
  ·exact ⟨t, ⟨hi, ((Q160 (Q202 hx s (gt x i))).1 a).2.2⟩, b⟩
 ·rintro ⟨t, a, b⟩
  have := Q99 hn he i s t a
  exact .inr ⟨t, (Q160 (Q202 hx s (gt x i))).2 ⟨by omega, by omega, a.2⟩, b⟩
theorem Q232 {l : List Int} (h : Canon l) : ∀ i : Int, 0 ≤ i → i < (l.length : Int) → 0 ≤ gt l i ∧ gt l i ≤ i := by
 have key : ∀ (k : Nat) (i : Int), i.toNat = k → 0 ≤ i → i < (l.length : Int) → gt l i ≤ i := fun k => by
  induction k using Nat.strongRecOn with
  | _ k ih =>
   intro i hk h0 h1
   by_cases hg : gt l i ≤ 0
   ·omega
   ·obtain ⟨j, j0, j1, j2⟩ := (h i h0 h1).2 (gt l i - 1) (by omega) (by omega)
    have := ih j.toNat (by omega) j rfl j0 (by omega)
    omega
 exact fun i h0 h1 => ⟨(h i h0 h1).1, key _ i rfl h0 h1⟩
structure CInv (n : Int) (x : List Bs) (y : List Q0) (z : List Q1) (l : List Int) : Prop where
 len : (l.length : Int) = n
 canon : Canon l
 coarse : ∀ s t : Int, 0 ≤ s → s < n → 0 ≤ t → t < n → Alike (Hs z) (Es x y) s t → gt l s = gt l t
 props : ∀ s t : Int, 0 ≤ s → s < n → 0 ≤ t → t < n → gt l s = gt l t → ∀ i, Hs z i s ↔ Hs z i t
theorem CInv.first (hh : Hx z holds) (hn : n ≤ 24) (hz : z.length ≤ 8) {l : List Int} (h : NumBy (fun s => B8 (mk8 (hoP hh s) z.length)) n l) : CInv n x y z l := by
 have key : ∀ s t : Int, 0 ≤ s → s < n → 0 ≤ t → t < n → (gt l s = gt l t ↔ ∀ i, Hs z i s ↔ Hs z i t) := fun s t s0 s1 t0 t1 => by
  rw [h.iff s t s0 s1 t0 t1]
  constructor
  ·intro e i
   by_cases hi : i < z.length
   ·have := (mk8_iff hz).1 (B8.inj e) i hi
    rw [← Q172 hh s0 (by omega) hi, ← Q172 hh t0 (by omega) hi, this]
   ·exact ⟨fun q => absurd q.1 hi, fun q => absurd q.1 hi⟩
  ·intro e
   refine congrArg B8 ((mk8_iff hz).2 fun i hi => ?_)
   rw [Bool.eq_iff_iff, Q172 hh s0 (by omega) hi, Q172 hh t0 (by omega) hi]
   exact e i
 exact ⟨h.len, h.canon, fun s t s0 s1 t0 t1 ha => (key s t s0 s1 t0 t1).2 (Alike.ks.hd s t ha), fun s t s0 s1 t0 t1 e => (key s t s0 s1 t0 t1).1 e⟩
theorem Q174 (hx : Nx x y next) (hn : n ≤ 24) (hl8 : x.length ≤ 8) (he : ∀ e ∈ y, EdgeIn n x.length e) {l l' : List Int} (c : CInv n x y z l) (h : NumBy (fun s => sgK (gt l s) (sgF hx l s x.length)) n l') {s t : Int} (s0 : 0 ≤ s) (s1 : s < n) (t0 : 0 ≤ t) (t1 : t < n) :
 gt l' s = gt l' t ↔ gt l s = gt l t ∧ ∀ i, ∀ d, (∃ s', Es x y i s s' ∧ gt l s' = d) ↔ (∃ t', Es x y i t t' ∧ gt l t' = d) := by
 have hlt : ∀ t : Int, 0 ≤ t → t < n → 0 ≤ gt l t ∧ gt l t < 256 := fun t t0 t1 => by have := Q232 c.canon t t0 (by rw [c.len]; exact t1); omega
 rw [h.iff s t s0 s1 t0 t1, sgK_iff]
 refine and_congr Iff.rfl ?_
 constructor
 ·intro e i d
  by_cases hi : i < x.length
  ·have hr := Q173 hx hn he hlt s hi
   have hr' := Q173 hx hn he hlt t hi
   have := e i (by omega) (by omega)
   rw [this] at hr
   constructor
   ·rintro ⟨s', a, b⟩
    have w := Q99 hn he i s s' a
    have hd := hlt s' w.2.2.1 w.2.2.2
    rw [b] at hd
    exact (hr' d hd.1 hd.2).1 ((hr d hd.1 hd.2).2 ⟨s', a, b⟩)
   ·rintro ⟨t', a, b⟩
    have w := Q99 hn he i t t' a
    have hd := hlt t' w.2.2.1 w.2.2.2
    rw [b] at hd
    exact (hr d hd.1 hd.2).1 ((hr' d hd.1 hd.2).2 ⟨t', a, b⟩)
  ·exact ⟨fun ⟨_, a, _⟩ => absurd a.1 hi, fun ⟨_, a, _⟩ => absurd a.1 hi⟩
 ·intro e j j0 j1
  by_cases hj : j < (x.length : Int)
  ·have hr := Q173 hx hn he hlt s (i := j.toNat) (by omega)
   have hr' := Q173 hx hn he hlt t (i := j.toNat) (by omega)
   rw [show ((j.toNat : Nat) : Int) = j from by omega] at hr hr'
   exact hr.uniq hr' fun d _ _ => e j.toNat d
  ·unfold sgF
   rw [if_neg (by omega), if_neg (by omega)]
theorem CInv.step (hx : Nx x y next) (hn : n ≤ 24) (hl8 : x.length ≤ 8) (he : ∀ e ∈ y, EdgeIn n x.length e) {l l' : List Int} (c : CInv n x y z l) (h : NumBy (fun s => sgK (gt l s) (sgF hx l s x.length)) n l') : CInv n x y z l' := by
 refine ⟨h.len, h.canon, fun s t s0 s1 t0 t1 ha => ?_, fun s t s0 s1 t0 t1 e => c.props s t s0 s1 t0 t1 ((Q174 hx hn hl8 he c h s0 s1 t0 t1).1 e).1⟩
 refine (Q174 hx hn hl8 he c h s0 s1 t0 t1).2 ⟨c.coarse s t s0 s1 t0 t1 ha, fun i d => ⟨fun ⟨s', a, b⟩ => ?_, fun ⟨t', a, b⟩ => ?_⟩⟩
 ·obtain ⟨t', a', q⟩ := Alike.ks.fw s t ha i s' a
  have w := Q99 hn he i s s' a
  have w' := Q99 hn he i t t' a'
  exact ⟨t', a', by rw [← c.coarse s' t' w.2.2.1 w.2.2.2 w'.2.2.1 w'.2.2.2 q]; exact b⟩
 ·obtain ⟨s', a', q⟩ := Alike.ks.bw s t ha i t' a
  have w := Q99 hn he i t t' a
  have w' := Q99 hn he i s s' a'
  exact ⟨s', a', by rw [c.coarse s' t' w'.2.2.1 w'.2.2.2 w.2.2.1 w.2.2.2 q]; exact b⟩
theorem CInv.fin (hx : Nx x y next) (hn : n ≤ 24) (hl8 : x.length ≤ 8) (he : ∀ e ∈ y, EdgeIn n x.length e) {l : List Int} (c : CInv n x y z l) (h : NumBy (fun s => sgK (gt l s) (sgF hx l s x.length)) n l) : Cls n (Hs z) (Es x y) l :=
 cls_of (Q99 hn he) c.len c.canon c.coarse fun s t s0 s1 t0 t1 e => ⟨c.props s t s0 s1 t0 t1 e, fun i s' a => by
  obtain ⟨t', a', b⟩ := (((Q174 hx hn hl8 he c h s0 s1 t0 t1).1 e).2 i (gt l s')).1 ⟨s', a, rfl⟩
  exact ⟨t', a', b.symm⟩⟩
theorem loop_run (hx : Nx x y next) (hn0 : 0 ≤ n) (hn : n ≤ 24) (hl8 : x.length ≤ 8) (he : ∀ e ∈ y, EdgeIn n x.length e) {l : List Int} (c : CInv n x y z l) :
 ∃ l', Q34.l0 n x y z l (some ⟨n, holds, next⟩) = some (.inr l') ∧ Cls n (Hs z) (Es x y) l' := by
 obtain ⟨r, hr, l', rfl, h⟩ := Q25 (body := fun t_ : (List Int) × (Option Q2) => Q34.l0b n x y z t_.1 t_.2) (fun s => s.2 = some ⟨n, holds, next⟩ ∧ CInv n x y z s.1)
  (fun r => ∃ l', r = .inr l' ∧ Cls n (Hs z) (Es x y) l') (fun s => pairs n.toNat fun a b => decide (gt s.1 (a : Int) = gt s.1 (b : Int))) (fun ⟨l, o⟩ ⟨h1, c⟩ => by
   dsimp only at h1 c ⊢
   subst h1
   obtain ⟨l', hl', hb⟩ := num_run (holds := holds) hx hn0 hn hl8 he l c.len n y z
   have c' := c.step hx hn hl8 he hb
   have hlen : l'.length = l.length := by have := c.len; have := hb.len; omega
   unfold Q34.l0b
   rw [hl', Option.bind_some, equal_run hlen (by have := hb.len; omega), Option.bind_some]
   by_cases e : l' = l
   ·left
    subst e
    rw [if_pos (decide_eq_true rfl)]
    exact ⟨_, rfl, l', rfl, c.fin hx hn hl8 he hb⟩
   ·right
    rw [if_neg (by simpa using e)]
    refine ⟨_, rfl, ⟨rfl, c'⟩, ?_⟩
    dsimp only
    have hsub : ∀ a b : Int, 0 ≤ a → a < n → 0 ≤ b → b < n → gt l' a = gt l' b → gt l a = gt l b := fun a b a0 a1 b0 b1 q => ((Q174 hx hn hl8 he c hb a0 a1 b0 b1).1 q).1
    have hex : ∃ a b : Int, (0 ≤ a ∧ a < n) ∧ (0 ≤ b ∧ b < n) ∧ gt l a = gt l b ∧ gt l' a ≠ gt l' b := Classical.byContradiction fun hno => e (hb.canon.uniq c.canon hlen fun a b a0 a1 b0 b1 => by
     rw [hb.len] at a1 b1
     exact ⟨hsub a b a0 a1 b0 b1, fun q => Classical.byContradiction fun q' => hno ⟨a, b, ⟨a0, a1⟩, ⟨b0, b1⟩, q, q'⟩⟩)
    obtain ⟨a, b, ⟨a0, a1⟩, ⟨b0, b1⟩, q1, q2⟩ := hex
    refine Q271 (fun i j hi hj q => ?_) (a := a.toNat) (b := b.toNat) (by omega) (by omega) ?_ ?_
    ·rw [decide_eq_true_eq] at q ⊢
     exact hsub i j (by omega) (by omega) (by omega) (by omega) q
    ·rw [show ((a.toNat : Nat) : Int) = a from by omega, show ((b.toNat : Nat) : Int) = b from by omega]
     exact decide_eq_false q2
    ·rw [show ((a.toNat : Nat) : Int) = a from by omega, show ((b.toNat : Nat) : Int) = b from by omega]
     exact decide_eq_true q1) (l, some ⟨n, holds, next⟩) ⟨rfl, c⟩
 exact ⟨l', hr, h⟩
end
theorem Q324 (n : Int) (x : List Bs) (y : List Q0) (z : List Q1) (hs : ∀ p ∈ z, (p.States.length : Int) ≤ 9223372036854775807) :
 (¬ RightS n x y z ∧ Q21.f n x y z = some none ∧ Q34.f n x y z = some []) ∨ (RightS n x y z ∧ ∃ l, Q34.f n x y z = some l ∧ Cls n (Hs z) (Es x y) l) := by
 obtain ⟨b, hb, hf⟩ := Q215 n x y z hs
 cases b with
 | false =>
  left
  have hN : Q21.f n x y z = some none := by unfold Q21.f; rw [hb]; simp
  refine ⟨fun h => (by have := hf.2 h; cases this), hN, ?_⟩
  unfold Q34.f
  rw [hN]
  rfl
 | true =>
  right
  have R := hf.1 rfl
  obtain ⟨m0, hm0, hh⟩ := holds_run z (by have := R.nz; omega) hs (fun i j h0 h1 h2 => rise_ne R.rz h0 h1 h2)
  obtain ⟨m1, hm1, hx⟩ := l1_run n x y (by have := R.ny; omega) R.ed R.n1
  have hN : Q21.f n x y z = some (some ⟨n, m0, m1⟩) := by unfold Q21.f; rw [hb]; simp [hm0, hm1, jn]
  obtain ⟨l0, hl0, hb0⟩ := num8_run (n := n) (next := m1) hh (by have := R.n0; omega) R.n1 R.nz n x y
  obtain ⟨l, hl, hc⟩ := loop_run (holds := m0) hx (by have := R.n0; omega) R.n1 R.nx R.ed (CInv.first (x := x) (y := y) hh R.n1 R.nz hb0)
  refine ⟨R, l, ?_, hc⟩
  unfold Q34.f
  rw [hN, Option.bind_some]
  simp only [Option.isNone_some, Bool.false_eq_true, if_false]
  rw [hl0, Option.bind_some, hl]
  rfl
end Go.Bw
namespace Go.Bw
open Go Go.RowKit

section
variable {α : Type} [DecidableEq α]
def dd : List α → List α
 | [] => []
 | [x] => [x]
 | x :: y :: r => if x = y then dd (y :: r) else x :: dd (y :: r)
theorem dd_snoc : ∀ (P : List α) (u v : α), dd (P ++ [u, v]) = if u = v then dd (P ++ [u]) else dd (P ++ [u]) ++ [v]
 | [], u, v => by
  by_cases h : u = v
  ·simp [dd, h]
  ·simp [dd, h]
 | [a], u, v => by
  by_cases h : u = v
  ·subst h; by_cases h2 : a = u <;> simp [dd, h2]
  ·by_cases h2 : a = u <;> simp [dd, h, h2]
 | a :: b :: P, u, v => by
  have ih := dd_snoc (b :: P) u v
  simp only [List.cons_append] at ih ⊢
  rw [dd, dd, ih]
  by_cases h : u = v
  ·rw [if_pos h, if_pos h]
  ·rw [if_neg h, if_neg h]
   by_cases h2 : a = b
   ·rw [if_pos h2, if_pos h2]
   ·rw [if_neg h2, if_neg h2]; rfl
theorem Q180 : ∀ {l : List α} {x : α}, x ∈ dd l ↔ x ∈ l
 | [], x => Iff.rfl
 | [a], x => Iff.rfl
 | a :: b :: r, x => by
  rw [dd]
  by_cases h : a = b
  ·rw [if_pos h, Q180]
   subst h
   simp
  ·rw [if_neg h, List.mem_cons, Q180, ← List.mem_cons]
theorem dd_len : ∀ (l : List α), (dd l).length ≤ l.length
 | [] => Nat.le_refl _
 | [a] => Nat.le_refl _
 | a :: b :: r => by
  have ih := dd_len (b :: r)
  rw [dd]
  split
  ·simp only [List.length_cons] at ih ⊢; omega
  ·simp only [List.length_cons] at ih ⊢; omega
theorem dd_rise {lt : α → α → Prop} (ht : ∀ x y, ¬ lt x y → ¬ lt y x → x = y) : ∀ {l : List α}, l.Pairwise (fun x y => ¬ lt y x) → (dd l).Pairwise lt
 | [], _ => List.Pairwise.nil
 | [a], _ => List.pairwise_singleton _ _
 | a :: b :: r, h => by
  rw [List.pairwise_cons] at h
  have ih := dd_rise ht h.2
  rw [dd]
  by_cases e : a = b
  ·rw [if_pos e]; exact ih
  ·rw [if_neg e, List.pairwise_cons]
   refine ⟨fun y hy => ?_, ih⟩
   have hy' := Q180.1 hy
   by_cases hl : lt a y
   ·exact hl
   ·have e1 : a = y := ht _ _ hl (h.1 y hy')
    subst e1
    exfalso
    rcases List.mem_cons.1 hy' with q | q
    ·exact e q
    ·have h2 := h.2
     rw [List.pairwise_cons] at h2
     have := h2.1 a q
     by_cases hab : lt a b
     ·exact this hab
     ·exact e (ht _ _ hab (h.1 b (.head _)))
end
theorem Q164 {u v : Q0} : (decide (u.From = v.From) && (decide (u.Action = v.Action) && (decide (u.To = v.To) && true))) = true ↔ u = v := by
 cases u
 cases v
 simp [Q0.mk.injEq]
theorem take_two {a : List Q0} {k : Int} (h0 : 1 ≤ k) (h1 : k < (a.length : Int)) : a.take (k.toNat + 1) = a.take (k.toNat - 1) ++ [gt a (k - 1), gt a k] ∧ a.take k.toNat = a.take (k.toNat - 1) ++ [gt a (k - 1)] := by
 have e1 := Q40 (xs := a) (i := k) (by omega) h1
 have e2 := Q40 (xs := a) (i := k - 1) (by omega) (by omega)
 have h2 : a.take k.toNat = a.take (k.toNat - 1) ++ [gt a (k - 1)] := by
  have : k.toNat = (k.toNat - 1) + 1 := by omega
  rw [this, List.take_add_one]
  rw [show (k - 1).toNat = k.toNat - 1 from by omega] at e2
  simp [e2]
 refine ⟨?_, h2⟩
 rw [List.take_add_one, e1, h2, List.append_assoc]
 rfl
theorem dd_take {a : List Q0} {k : Int} (h0 : 1 ≤ k) (h1 : k < (a.length : Int)) : dd (a.take (k.toNat + 1)) = if gt a (k - 1) = gt a k then dd (a.take k.toNat) else dd (a.take k.toNat) ++ [gt a k] := by
 obtain ⟨e1, e2⟩ := take_two h0 h1
 rw [e1, e2]
 exact dd_snoc _ _ _
theorem Q296 (a : List Q0) (ha : (a.length : Int) ≤ 1000000) {k : Int} (h0 : 1 ≤ k) (h1 : k < (a.length : Int)) (hd : dd (a.take (k.toNat + 1)) = a.take k.toNat) :
 ∃ X i, Q33.l1 a k a k 1 = some (.inl (X, i)) ∧ 0 ≤ i ∧ i ≤ (a.length : Int) ∧ X.length = a.length ∧ X.take i.toNat = dd a := by
 obtain ⟨r, hr, X, i, rfl, h⟩ := Q25 (body := fun t_ : (List Q0) × Int × Int => Q33.l1b a k t_.1 t_.2.1 t_.2.2)
  (fun s => 1 ≤ s.2.2 ∧ k + s.2.2 ≤ (a.length : Int) ∧ k ≤ s.2.1 ∧ s.2.1 ≤ k + s.2.2 - 1 ∧ s.1.length = a.length ∧ s.1.take s.2.1.toNat = dd (a.take (k + s.2.2).toNat) ∧ ∀ j : Int, k + s.2.2 - 1 ≤ j → j < (a.length : Int) → gt s.1 j = gt a j)
  (fun r => ∃ X i, r = .inl (X, i) ∧ 0 ≤ i ∧ i ≤ (a.length : Int) ∧ X.length = a.length ∧ X.take i.toNat = dd a) (fun s => ((a.length : Int) - s.2.2).toNat) (fun ⟨X, i, q⟩ ⟨q0, q1, i0, i1, hX, hT, hG⟩ => by
   dsimp only at q0 q1 i0 i1 hX hT hG ⊢
   have hsub : ((a.length - k.toNat : Nat) : Int) = (a.length : Int) - k := by omega
   unfold Q33.l1b
   rw [hsub]
   by_cases hq : q < (a.length : Int) - k
   ·right
    have w1 : IntKind.i64.wrap (q - 1) = q - 1 := wrap64 (by omega) (by omega)
    have w2 : IntKind.i64.wrap (q + 1) = q + 1 := wrap64 (by omega) (by omega)
    have w3 : IntKind.i64.wrap (i + 1) = i + 1 := wrap64 (by omega) (by omega)
    have g1 := hG (k + q) (by omega) (by omega)
    have g2 := hG (k + (q - 1)) (by omega) (by omega)
    have hdt := dd_take (a := a) (k := k + q) (by omega) (by omega)
    rw [show (k + q).toNat + 1 = (k + (q + 1)).toNat from by omega, show k + q - 1 = k + (q - 1) from by omega] at hdt
    rw [if_pos hq, if_pos ⟨by omega, hq⟩, w1, if_pos ⟨by omega, by omega⟩, g1, g2, w2]
    by_cases he : gt a (k + q) = gt a (k + (q - 1))
    ·rw [if_pos (Q164.2 he), Q10]
     refine ⟨_, rfl, ⟨by dsimp only; omega, by dsimp only; omega, i0, by dsimp only; omega, hX, ?_, fun j j0 j1 => hG j (by dsimp only at j0; omega) j1⟩, by dsimp only; omega⟩
     dsimp only
     rw [hdt, if_pos he.symm]
     exact hT
    ·rw [if_neg (fun h => he (Q164.1 h)), if_pos ⟨by omega, by omega⟩, Q10, w3]
     have hi : 0 ≤ i ∧ i < (X.length : Int) := by omega
     refine ⟨_, rfl, ⟨by dsimp only; omega, by dsimp only; omega, by dsimp only; omega, by dsimp only; omega, by dsimp only; rw [Q93]; exact hX, ?_, fun j j0 j1 => ?_⟩, by dsimp only; omega⟩
     ·dsimp only
      rw [hdt, if_neg (fun h => he h.symm), ← hT]
      have : (st X i ⟨(gt a (k + q)).From, (gt a (k + q)).Action, (gt a (k + q)).To⟩).take (i + 1).toNat = X.take i.toNat ++ [gt a (k + q)] := by
       unfold st
       rw [show (i + 1).toNat = i.toNat + 1 from by omega, List.take_add_one, List.take_set_of_le (Nat.le_refl _), List.getElem?_set_self (by omega)]
       rfl
      exact this
     ·dsimp only at j0 ⊢
      rw [Q90 hi.1 hi.2 (by omega), if_neg (by omega)]
      exact hG j (by omega) j1
   ·left
    rw [if_neg hq]
    refine ⟨_, rfl, X, i, rfl, by omega, by omega, hX, ?_⟩
    rw [hT, List.take_of_length_le (by omega)]) (a, k, 1) ⟨by dsimp only; omega, by dsimp only; omega, by dsimp only; omega, by dsimp only; omega, rfl, by
    dsimp only
    rw [show (k + 1).toNat = k.toNat + 1 from by omega, hd], fun j _ _ => rfl⟩
 exact ⟨X, i, hr, h⟩
theorem Q328 (a : List Q0) (ha : (a.length : Int) ≤ 1000000) : Q33.f a = some (dd a) := by
 unfold Q33.f
 by_cases h2 : (a.length : Int) < 2
 ·rw [if_pos h2]
  have e : ∀ l : List Q0, l.length < 2 → dd l = l := fun l hl => by
   cases l with
   | nil => rfl
   | cons x r =>
    cases r with
    | nil => rfl
    | cons y r => simp only [List.length_cons] at hl; omega
  rw [e a (by omega)]
 ·rw [if_neg h2]
  obtain ⟨r, hr, hq⟩ := Q25 (body := fun t_ : Int => Q33.l0b a t_) (fun k => 1 ≤ k ∧ k ≤ (a.length : Int) ∧ dd (a.take k.toNat) = a.take k.toNat)
   (fun r => (r = .inl () ∧ dd a = a) ∨ r = .inr (dd a)) (fun k => ((a.length : Int) - k).toNat) (fun k ⟨k0, k1, kd⟩ => by
    have hdt : k < (a.length : Int) → _ := fun h => dd_take (a := a) (k := k) k0 h
    simp only [Q33.l0b]
    by_cases hk : k < (a.length : Int)
    ·have w1 : IntKind.i64.wrap (k - 1) = k - 1 := wrap64 (by omega) (by omega)
     have w2 : IntKind.i64.wrap (k + 1) = k + 1 := wrap64 (by omega) (by omega)
     have hdt := hdt hk
     rw [if_pos hk, if_pos ⟨by omega, hk⟩, w1, if_pos ⟨by omega, by omega⟩]
     by_cases he : gt a k = gt a (k - 1)
     ·left
      rw [if_pos he.symm, kd] at hdt
      obtain ⟨X, i, hX, i0, i1, hXl, hT⟩ := Q296 a ha k0 hk hdt
      rw [if_pos (Q164.2 he), if_pos ⟨by omega, by omega⟩, hX, Q10]
      dsimp only
      rw [if_pos ⟨i0, i1⟩]
      refine ⟨_, rfl, .inr ?_⟩
      rw [List.take_append_of_le_length (by rw [List.length_take]; omega), List.take_take, Nat.min_self, hT]
     ·right
      rw [if_neg (fun h => he h.symm), kd] at hdt
      rw [if_neg (fun h => he (Q164.1 h)), w2]
      refine ⟨_, rfl, ⟨by omega, by omega, ?_⟩, by omega⟩
      rw [show (k + 1).toNat = k.toNat + 1 from by omega, hdt, List.take_add_one, Q40 (by omega) hk]
      rfl
    ·left
     rw [if_neg hk]
     refine ⟨_, rfl, .inl ⟨rfl, ?_⟩⟩
     rwa [List.take_of_length_le (by omega)] at kd) 1 ⟨by decide, by omega, by
     cases a with
     | nil => rfl
     | cons x r => simp [dd]⟩
  have hl : Q33.l0 a 1 = some r := hr
  rcases hq with ⟨rfl, h⟩ | rfl
  ·rw [hl, Q10, h]
  ·rw [hl]; rfl
end Go.Bw
namespace Go.Bw
open Go Go.RowKit
noncomputable def Q87.fc (fu : Nat) (a0 : List Int) : Option (List Int) := soloC a0
theorem Q87.f_ap (fu : Nat) (a0 : List Int) : Ap (Q87.fc fu a0) (Q87.f a0) := fun r h => by
 obtain ⟨rfl, h⟩ := Q221 h
 rcases h with rfl | ⟨x, rfl⟩ <;> simp [Q87.f]
noncomputable def Q42.fc (fu : Nat) (I : List Q4) (J : Option Q3) (u : Int) (B : List Bs) (D : List Q0) (q : List Q1) (E : List Q6) (G : List (Bs × Bool)) : Option ((List Q1) × (Option Q3) × (List Q4)) :=
 (Q95.f I J u B D q E G).bind fun p =>
 jn (
 if p.1.isNone = true then
 if 8 ≤ (q.length : Int) then
 (Q20.f p.2.1 p.1 u B D q E G p.2.2.1 p.2.2.2.1 p.2.2.2.2.1 p.2.2.2.2.2 10).bind fun L =>
 some (.inl L)
 else
 (Q126.f q p.2.2.1 p.2.2.2.1 p.2.2.2.2.1 p.2.2.2.2.2).bind fun N =>
 if N = true then
 (Q20.f p.2.1 p.1 u B D q E G p.2.2.1 p.2.2.2.1 p.2.2.2.2.1 p.2.2.2.2.2 9).bind fun O =>
 some (.inl O)
 else
 some (.inl p.1)
 else
 up (some (q, p.1, p.2.1))) (fun (U : Option Q3) =>
 jn (Q42.l0 u B D q E G ([] : List Int) U p.2.1) (fun (s_ : (Option Q3) × (List Int) × (List Q4)) =>
 (Q87.fc fu s_.2.1).bind fun V =>
 if (q.length + 1) * 40 ≤ 140737488355328 then
 some ((q ++ [(⟨p.2.2.2.2.1, V⟩ : Q1)]), s_.1, s_.2.2)
 else none))
theorem Q42.f_ap (fu : Nat) (p : List Q4) (q : Option Q3) (u : Int) (B : List Bs) (D : List Q0) (E : List Q1) (G : List Q6) (I : List (Bs × Bool)) : Ap (Q42.fc fu p q u B D E G I) (Q42.f p q u B D E G I) := by
 unfold Q42.fc Q42.f
 repeat' with_reducible first | apply Q87.f_ap | exact Ap.none | apply Ap.jn | apply Ap.ite | apply Ap.up | apply Ap.bind | exact Ap.refl _ | intro
noncomputable def Q86.fc (fu : Nat) (a0 : List Bs) : Option (List Bs) := soloC a0
theorem Q86.f_ap (fu : Nat) (a0 : List Bs) : Ap (Q86.fc fu a0) (Q86.f a0) := fun r h => by
 obtain ⟨rfl, h⟩ := Q221 h
 rcases h with rfl | ⟨x, rfl⟩ <;> simp [Q86.f]
noncomputable def Q43.fc (fu : Nat) (a0 : List Q0) : Option (List Q0) := fewC (asisC (fun x y => Q91.f x.From x.Action x.To y.From y.Action y.To) a0)
theorem Q43.f_ap (fu : Nat) (a0 : List Q0) : Ap (Q43.fc fu a0) (Q43.f a0) := fun r h => by
 unfold Q43.fc at h
 obtain ⟨h, hl⟩ := few_mem h
 obtain ⟨rfl, hb⟩ := Q246 (c := Q43.cmp) (fun x y => Ap.refl _) h
 unfold Q43.f
 rw [if_pos ⟨by omega, edge_tot⟩, hb]
noncomputable def Q45.fc (fu : Nat) (a0 : List Q1) : Option (List Q1) := soloC a0
theorem Q45.f_ap (fu : Nat) (a0 : List Q1) : Ap (Q45.fc fu a0) (Q45.f a0) := fun r h => by
 obtain ⟨rfl, h⟩ := Q221 h
 rcases h with rfl | ⟨x, rfl⟩ <;> simp [Q45.f, byCmp, CmpParts, prop_swo]
noncomputable def Q38.fc (fu : Nat) (U : List Q4) (V : Option Q3) (q : Int) (u : List Bs) (B : List Q0) (D : List Q1) (E : List Q6) (G : List (Bs × Bool)) : Option ((List Q1) × (List Q0) × (List Bs) × Int) :=
 orderedC G (fun (t_ : (List Bs)) (z_ : Bs × Bool) => Q38.l0b  z_ t_) u (fun I => I) (fun (J : List Bs) =>
 (Q86.fc fu J).bind fun p =>
 jn (Q38.l1 E p B 0) (fun (L : List Q0) =>
 (Q43.fc fu L).bind fun N =>
 (Q45.fc fu D).bind fun O =>
 some (O, N, p, q)))
theorem Q38.f_ap (fu : Nat) (p : List Q4) (q : Option Q3) (u : Int) (B : List Bs) (D : List Q0) (E : List Q1) (G : List Q6) (I : List (Bs × Bool)) : Ap (Q38.fc fu p q u B D E G I) (Q38.f p q u B D E G I) := by
 unfold Q38.fc Q38.f
 repeat' with_reducible first | apply Q86.f_ap | apply Q43.f_ap | apply Q45.f_ap | apply Ap.jn | apply Ap.ordered | apply Ap.bind | exact Ap.refl _ | intro
noncomputable def Q26.l0bc (fu : Nat) (D : (Option Q3) × (List Q4) × Int) (E : Option Q3) (q : List Q1) (u : List Q6) (B : List (Bs × Bool)) (L : List Q4) : Option (((Option Q3) × (List Q1) × (List Q6) × (List (Bs × Bool)) × (List Q4)) ⊕ (((Option Q3) × (List Q1) × (List Q6) × (List (Bs × Bool)) × (List Q4)) ⊕ ((Option Q3) × (List Bs) × (List Q0) × (List Q1) × Int))) :=
 if E.isNone = true then
 (Q61.f L E D.2.2 ([] : List Bs) ([] : List Q0) q u B).bind fun G =>
 if (0 : Int) ≤ 0 ∧ 0 < (G.length : Int) then
 if (gt G 0).Kind = 0 then
 dn (.inl (E, q, u, B, G))
 else
 (Q55.f G E D.2.2 ([] : List Bs) ([] : List Q0) q u B 2).bind fun p =>
 if p.1.isNone = true then
 if bseq p.2.2.2.2.1 ([101, 100, 103, 101] : Bs) = true then
 (Q123.f p.2.1 p.1 D.2.2 ([] : List Bs) ([] : List Q0) q u B p.2.2.1 p.2.2.2.1 p.2.2.2.2.1 p.2.2.2.2.2).bind fun I =>
 nx (I.2.2.1, q, I.1, I.2.1, I.2.2.2)
 else
 if bseq p.2.2.2.2.1 ([109, 97, 114, 107] : Bs) = true then
 (Q42.fc fu p.2.1 p.1 D.2.2 ([] : List Bs) ([] : List Q0) q u B).bind fun J =>
 nx (J.2.1, J.1, u, B, J.2.2)
 else
 (Q20.f p.2.1 p.1 D.2.2 ([] : List Bs) ([] : List Q0) q u B p.2.2.1 p.2.2.2.1 p.2.2.2.2.1 p.2.2.2.2.2 7).bind fun N =>
 nx (N, q, u, B, p.2.1)
 else
 nx (p.1, q, u, B, p.2.1)
 else none
 else
 dn (.inl (E, q, u, B, L))
theorem Q26.l0b_ap (fu : Nat) (p : (Option Q3) × (List Q4) × Int) (q : Option Q3) (u : List Q1) (B : List Q6) (D : List (Bs × Bool)) (E : List Q4) : Ap (Q26.l0bc fu p q u B D E) (Q26.l0b p q u B D E) := by
 unfold Q26.l0bc Q26.l0b
 repeat' with_reducible first | apply Q42.f_ap | exact Ap.none | apply Ap.ite | apply Ap.bind | exact Ap.refl _ | intro
noncomputable def Q26.l0c (fu : Nat) (p : (Option Q3) × (List Q4) × Int) (q : Option Q3) (u : List Q1) (B : List Q6) (D : List (Bs × Bool)) (E : List Q4) : Option (((Option Q3) × (List Q1) × (List Q6) × (List (Bs × Bool)) × (List Q4)) ⊕ ((Option Q3) × (List Bs) × (List Q0) × (List Q1) × Int)) := iterC fu (fun t_ : (Option Q3) × (List Q1) × (List Q6) × (List (Bs × Bool)) × (List Q4) => Q26.l0bc fu p t_.1 t_.2.1 t_.2.2.1 t_.2.2.2.1 t_.2.2.2.2) (q, u, B, D, E)
theorem Q26.l0_ap (fu : Nat) (p : (Option Q3) × (List Q4) × Int) (q : Option Q3) (u : List Q1) (B : List Q6) (D : List (Bs × Bool)) (E : List Q4) : Ap (Q26.l0c fu p q u B D E) (Q26.l0 p q u B D E) := by
 unfold Q26.l0c Q26.l0
 repeat' with_reducible first | apply Q26.l0b_ap | apply Ap.iter | exact Ap.refl _ | intro
noncomputable def Q26.fc (fu : Nat) (a0 : Bs) : Option ((Option Q3) × (List Bs) × (List Q0) × (List Q1) × Int) :=
 (Q73.f a0).bind fun u =>
 if u.1.isNone = true then
 (Q118.f u.2 (none : Option Q3) 0 ([] : List Bs) ([] : List Q0) ([] : List Q1) ([] : List Q6) ([] : List (Bs × Bool))).bind fun p =>
 jn (Q26.l0c fu p p.1 ([] : List Q1) ([] : List Q6) ([] : List (Bs × Bool)) p.2.1) (fun (s_ : (Option Q3) × (List Q1) × (List Q6) × (List (Bs × Bool)) × (List Q4)) =>
 if s_.1.isNone = true then
 (Q38.fc fu s_.2.2.2.2 s_.1 p.2.2 ([] : List Bs) ([] : List Q0) s_.2.1 s_.2.2.1 s_.2.2.2.1).bind fun q =>
 some (none, q.2.2.1, q.2.1, q.1, q.2.2.2)
 else
 some ((some (⟨(s_.1.getD default).At, (s_.1.getD default).Err⟩ : Q3)), ([] : List Bs), ([] : List Q0), ([] : List Q1), 0))
 else
 some (u.1, ([] : List Bs), ([] : List Q0), ([] : List Q1), 0)
theorem Q26.f_ap (fu : Nat) (a0 : Bs) : Ap (Q26.fc fu a0) (Q26.f a0) := by
 unfold Q26.fc Q26.f
 repeat' with_reducible first | apply Q26.l0_ap | apply Q38.f_ap | exact Ap.none | apply Ap.jn | apply Ap.ite | apply Ap.bind | exact Ap.refl _ | intro
noncomputable def Q36.fc (fu : Nat) (a0 : List Q0) : Option (List Q0) := fewC (if a0.all smallB = true then (asisC (fun x y => Q132.f x.From x.Action x.To y.From y.Action y.To) a0) else none)
theorem Q36.f_ap (fu : Nat) (a0 : List Q0) : Ap (Q36.fc fu a0) (Q36.f a0) := fun r h => by
 unfold Q36.fc at h
 obtain ⟨h, hl⟩ := few_mem h
 split at h
 rotate_left
 ·cases h
 rename_i hs
 obtain ⟨rfl, hb⟩ := Q246 (c := Q36.cmp) (fun x y => Ap.refl _) h
 unfold Q36.f
 rw [if_pos ⟨by omega, diff_on fun x hx => Q341.1 (List.all_eq_true.1 hs x hx)⟩, hb]
noncomputable def Q16.fc (fu : Nat) (D : Int) (q : List Bs) (u : List Q0) (B : List Q1) : Option ((List Q1) × (List Q0) × (List Bs) × (List Int) × Int) :=
 (Q34.f D q u B).bind fun p =>
 if (p.length : Int) = 0 then
 some (([] : List Q1), ([] : List Q0), ([] : List Bs), ([] : List Int), 0)
 else
 (Q48.f p).bind fun E =>
 (Q85.f q).bind fun G =>
 jn (Q16.l0 u p ([] : List Q0) 0) (fun (I : List Q0) =>
 (Q36.fc fu I).bind fun J =>
 (Q33.f J).bind fun L =>
 jn (Q16.l1 B p ([] : List Q1) 0) (fun (N : List Q1) =>
 some (N, L, G, p, IntKind.i64.wrap (E + 1))))
theorem Q16.f_ap (fu : Nat) (p : Int) (q : List Bs) (u : List Q0) (B : List Q1) : Ap (Q16.fc fu p q u B) (Q16.f p q u B) := by
 unfold Q16.fc Q16.f
 repeat' with_reducible first | apply Q36.f_ap | apply Ap.jn | apply Ap.ite | apply Ap.bind | exact Ap.refl _ | intro
noncomputable def Q79.fc (fu : Nat)  : Option Bool :=
 (Q26.fc fu ([115, 116, 97, 116, 101, 115, 32, 52, 10, 101, 100, 103, 101, 32, 48, 32, 97, 32, 49, 10, 101, 100, 103, 101, 32, 48, 32, 97, 32, 50, 10, 101, 100, 103, 101, 32, 49, 32, 97, 32, 51, 10, 101, 100, 103, 101, 32, 50, 32, 97, 32, 51, 10, 109, 97, 114, 107, 32, 112, 32, 51, 10] : Bs)).bind fun q =>
 (Q16.fc fu q.2.2.2.2 q.2.1 q.2.2.1 q.2.2.2.1).bind fun p =>
 jn (
 if q.1.isNone = true then
 some (.inl (decide ((p.2.2.2.1.length : Int) = 4)))
 else
 some (.inl false)) (fun (u : Bool) =>
 jn (
 if u = true then
 if (0 : Int) ≤ 2 ∧ 2 < (p.2.2.2.1.length : Int) then
 some (.inl (decide (gt p.2.2.2.1 2 = 1)))
 else none
 else
 some (.inl false)) (fun (B : Bool) =>
 jn (
 if B = true then
 if (0 : Int) ≤ 3 ∧ 3 < (p.2.2.2.1.length : Int) then
 some (.inl (decide (gt p.2.2.2.1 3 = 2)))
 else none
 else
 some (.inl false)) (fun (D : Bool) =>
 jn (
 if D = true then
 some (.inl (decide (p.2.2.2.2 = 3)))
 else
 some (.inl false)) (fun (E : Bool) =>
 jn (
 if E = true then
 some (.inl (decide ((p.2.1.length : Int) = 2)))
 else
 some (.inl false)) (fun (G : Bool) =>
 some G)))))
theorem Q79.f_ap (fu : Nat)  : Ap (Q79.fc fu ) (Q79.f ) := by
 unfold Q79.fc Q79.f
 repeat' with_reducible first | apply Q26.f_ap | apply Q16.f_ap | exact Ap.none | apply Ap.jn | apply Ap.ite | apply Ap.bind | exact Ap.refl _ | intro
theorem Q307 : Q79.f = some true := Q79.f_ap 100 _ (by kernel_rfl)
end Go.Bw
namespace Go.Bw
open Go Go.RowKit

theorem gt_map {α β : Type} [Inhabited α] [Inhabited β] {xs : List α} (f : α → β) {i : Int} (h0 : 0 ≤ i) (h1 : i < (xs.length : Int)) : gt (xs.map f) i = f (gt xs i) := by
 have h := Q40 h0 h1
 have h2 : (xs.map f)[i.toNat]? = some (f (gt xs i)) := by rw [List.getElem?_map, h]; rfl
 have := Q88 h2
 rwa [show ((i.toNat : Nat) : Int) = i from by omega] at this
theorem Q214 {α β ρ : Type} [Inhabited α] {L : List α} (f : α → β) {body : List β × Int → Option ((List β × Int) ⊕ (List β ⊕ ρ))} (hL : (L.length : Int) ≤ 1000000) (acc : List β)
 (h1 : ∀ (a : List β) (i : Int), 0 ≤ i → i < (L.length : Int) → a.length = acc.length + i.toNat → body (a, i) = some (.inl (a ++ [f (gt L i)], i + 1))) (h2 : ∀ (a : List β) (i : Int), ¬ i < (L.length : Int) → body (a, i) = some (.inr (.inl a))) :
 iter body (acc, 0) = some (.inl (acc ++ L.map f)) := by
 have key : ∀ (q : Nat) (i : Int), 0 ≤ i → (L.length : Int) - i = q → iter body (acc ++ (L.take i.toNat).map f, i) = some (.inl (acc ++ L.map f)) := fun q => by
  induction q with
  | zero =>
   intro i i0 iq
   rw [Q156 (h2 _ i (by omega)), List.take_of_length_le (by omega)]
  | succ q ih =>
   intro i i0 iq
   have hi : i < (L.length : Int) := by omega
   rw [Q150 (h1 _ i i0 hi (by simp; omega))]
   have := ih (i + 1) (by omega) (by omega)
   rw [show (i + 1).toNat = i.toNat + 1 from by omega, List.take_add_one, Q40 i0 hi] at this
   simpa using this
 have := key L.length 0 (by decide) (by omega)
 simpa using this
section
variable {n : Int} {x : List Bs} {y : List Q0} {z : List Q1}
def side (n s a : Int) : Int := if s < n then a else a + n
end
theorem Q190 {n : Int} (hn : n ≤ 24) {S : List Int} (h : StatesS n S) : S.length ≤ 24 := by
 have key : ∀ k : Nat, k < S.length → (k : Int) ≤ gt S k := fun k => by
  induction k with
  | zero => intro hk; exact (h.1 _ (Q32 (by omega) (by omega))).1
  | succ k ih =>
   intro hk
   have h1 := ih (by omega)
   have h2 := h.2 ((k + 1 : Nat) : Int) (by omega) (by omega)
   rw [show ((k + 1 : Nat) : Int) - 1 = k from by omega] at h2
   have h2' : gt S (k : Int) < gt S ((k + 1 : Nat) : Int) := h2
   omega
 by_cases h0 : S.length = 0
 ·omega
 ·have h1 := key (S.length - 1) (by omega)
  have h2 := (h.1 _ (Q32 (xs := S) (i := ((S.length - 1 : Nat) : Int)) (by omega) (by omega))).2
  omega
end Go.Bw
namespace Go.Bw
open Go Go.RowKit Go.Proofs Go.Sort

theorem edge_tri : ∀ u v : Q0, ¬ edgeLt u v → ¬ edgeLt v u → u = v := fun u v h1 h2 => by
 unfold edgeLt at h1 h2
 cases u
 cases v
 simp only [Q0.mk.injEq] at *
 omega
open Classical in
theorem sort2_run {xs : List Q0} (hl : xs.length ≤ 1000000) (h : ∀ e ∈ xs, Small e) : ∃ L, Q36.f xs = some L ∧ L.Perm xs ∧ L.Pairwise (fun u v => ¬ edgeLt v u) := by
 have hmap : (xs.attachWith Small h).map (·.1) = xs := by simp
 let le2 : Q0 → Q0 → Bool := fun u v => !decide (edgeLt v u)
 obtain ⟨s1, hs1⟩ : ∃ s1 : Q0 → Q0 → Bool, s1 = fun u v => !(ltOf (gcf Q36.cmp)) v u := ⟨_, rfl⟩
 obtain ⟨s2, hs2⟩ : ∃ s2 : Q0 → Q0 → Bool, s2 = le2 := ⟨_, rfl⟩
 have hle : (fun u v : {e // Small e} => s1 u.1 v.1) = fun u v => s2 u.1 v.1 := by
  funext u v
  have hd := Q219 v.2 u.2
  rw [hs1, hs2]
  show (!(decide ((Q36.cmp v.1 u.1).getD 0 < 0))) = !decide (edgeLt v.1 u.1)
  rw [hd]
  simp [diff_lt]
 have e1 := List.map_mergeSort (f := fun e : {e // Small e} => e.1) (r := fun u v => s1 u.1 v.1) (s := s1) (l := xs.attachWith Small h) (fun a _ b _ => rfl)
 have e2 := List.map_mergeSort (f := fun e : {e // Small e} => e.1) (r := fun u v => s2 u.1 v.1) (s := s2) (l := xs.attachWith Small h) (fun a _ b _ => rfl)
 rw [hle, hmap] at e1
 rw [hmap] at e2
 have e3 : byCmp Q36.cmp xs = xs.mergeSort le2 := by
  have e4 : byCmp Q36.cmp xs = xs.mergeSort s1 := by rw [hs1]; rfl
  rw [e4, ← e1, e2, hs2]
 refine ⟨xs.mergeSort le2, ?_, List.mergeSort_perm _ _, ?_⟩
 ·unfold Q36.f
  rw [if_pos ⟨by omega, diff_on h⟩, e3]
 ·have := List.pairwise_mergeSort (le := le2) (fun a b c h1 h2 => by
   simp only [le2, Bool.not_eq_true', decide_eq_false_iff_not] at *
   unfold edgeLt at *
   omega) (fun a b => by
   simp only [le2, Bool.or_eq_true, Bool.not_eq_true', decide_eq_false_iff_not]
   unfold edgeLt
   omega) xs
  exact this.imp fun {u v} q => by simpa [le2] using q
theorem max_run {c : List Int} (hl : 1 ≤ c.length) (hl2 : (c.length : Int) ≤ 1000000) : ∃ M, Q48.f c = some M ∧ M ∈ c ∧ ∀ v ∈ c, v ≤ M := by
 obtain ⟨r, hr, M, rfl, h1, h2⟩ := Q25 (body := fun t_ : Int × Int => Q48.l0b c t_.1 t_.2) (fun s => 1 ≤ s.2 ∧ s.2 ≤ (c.length : Int) ∧ s.1 ∈ c ∧ ∀ j : Int, 0 ≤ j → j < s.2 → gt c j ≤ s.1)
  (fun r => ∃ M, r = .inl M ∧ M ∈ c ∧ ∀ v ∈ c, v ≤ M) (fun s => ((c.length : Int) - s.2).toNat) (fun ⟨M, i⟩ ⟨i0, i1, hm, hj⟩ => by
   dsimp only at i0 i1 hm hj ⊢
   simp only [Q48.l0b]
   by_cases hi : i < (c.length : Int)
   ·right
    rw [if_pos hi, if_pos ⟨by omega, hi⟩, wrap64 (x := i + 1) (by omega) (by omega)]
    refine ⟨_, rfl, ⟨by dsimp only; omega, by dsimp only; omega, ?_, fun j j0 j1 => ?_⟩, by dsimp only; omega⟩
    ·dsimp only
     split
     ·exact Q32 (by omega) hi
     ·exact hm
    ·dsimp only at j1 ⊢
     by_cases hji : j = i
     ·subst hji; split <;> omega
     ·have := hj j j0 (by omega)
      split <;> omega
   ·left
    rw [if_neg hi]
    refine ⟨_, rfl, M, rfl, hm, fun v hv => ?_⟩
    obtain ⟨q, hq, rfl⟩ := List.getElem_of_mem hv
    have := hj q (by omega) (by omega)
    rwa [Q88 (List.getElem?_eq_getElem hq)] at this) (gt c 0, 1) ⟨by dsimp only; omega, by dsimp only; omega, Q32 (by decide) (by omega), fun j j0 j1 => by
    dsimp only at j1 ⊢
    rw [show j = 0 from by omega]
    exact Int.le_refl _⟩
 refine ⟨M, ?_, h1, h2⟩
 unfold Q48.f
 have hl0 : Q48.l0 c (gt c 0) 1 = some (.inl M) := hr
 rw [if_neg (by omega), if_pos ⟨by decide, by omega⟩, hl0, Q10]
def qE (c : List Int) (e : Q0) : Q0 := ⟨gt c e.From, e.Action, gt c e.To⟩
def qW (c : List Int) (S : List Int) : W4 := S.foldl (fun u t => putc u (gt c t)) W4.z
def qP (c : List Int) (p : Q1) : Q1 := ⟨p.Name, (qW c p.States).list⟩
section
variable {n : Int} {x : List Bs} {y : List Q0} {z : List Q1}
theorem q2_run (R : RightS n x y z) {c : List Int} (hl : (c.length : Int) = n) {i : Int} (i0 : 0 ≤ i) (i1 : i < (z.length : Int)) :
 Q16.l2 z c i 0 0 0 0 0 = some (.inl (qW c (gt z i).States).t) := by
 have hP := (R.pr _ (Q32 i0 i1)).2
 have hfew := Q190 R.n1 hP
 have key : ∀ (q k : Nat), k + q = (gt z i).States.length → iter (fun t_ : Int × Int × Int × Int × Int => Q16.l2b z c i t_.1 t_.2.1 t_.2.2.1 t_.2.2.2.1 t_.2.2.2.2)
  (Wd (qW c ((gt z i).States.take k)).a, Wd (qW c ((gt z i).States.take k)).b, Wd (qW c ((gt z i).States.take k)).c, Wd (qW c ((gt z i).States.take k)).d, (k : Int)) = some (.inl (qW c (gt z i).States).t) := fun q => by
  induction q with
  | zero =>
   intro k hk
   refine Q156 ?_
   simp only [Q16.l2b]
   rw [if_neg (by omega), List.take_of_length_le (by omega)]
   rfl
  | succ q ih =>
   intro k hk
   have hlt : (k : Int) < ((gt z i).States.length : Int) := by omega
   have hm := hP.1 _ (Q32 (xs := (gt z i).States) (i := (k : Int)) (by omega) hlt)
   have hs : qW c ((gt z i).States.take (k + 1)) = putc (qW c ((gt z i).States.take k)) (gt c (gt (gt z i).States (k : Int))) := by
    unfold qW
    have := Q40 (xs := (gt z i).States) (i := (k : Int)) (by omega) hlt
    rw [List.take_add_one, show ((k : Int).toNat) = k from by omega] at *
    rw [this]
    simp [List.foldl_append]
   have hb : Q16.l2b z c i (Wd (qW c ((gt z i).States.take k)).a) (Wd (qW c ((gt z i).States.take k)).b) (Wd (qW c ((gt z i).States.take k)).c) (Wd (qW c ((gt z i).States.take k)).d) (k : Int) = some (.inl (Wd (qW c ((gt z i).States.take (k + 1))).a, Wd (qW c ((gt z i).States.take (k + 1))).b, Wd (qW c ((gt z i).States.take (k + 1))).c, Wd (qW c ((gt z i).States.take (k + 1))).d, ((k + 1 : Nat) : Int))) := by
    simp only [Q16.l2b]
    rw [if_pos hlt, if_pos ⟨by omega, hlt⟩, if_pos ⟨by omega, by omega⟩, Q113, Option.bind_some, wrap64 (x := (k : Int) + 1) (by omega) (by omega), hs]
    rfl
   rw [Q150 (body := fun t_ : Int × Int × Int × Int × Int => Q16.l2b z c i t_.1 t_.2.1 t_.2.2.1 t_.2.2.2.1 t_.2.2.2.2) hb]
   exact ih (k + 1) (by omega)
 have := key (gt z i).States.length 0 (by omega)
 exact this
theorem q1_run (R : RightS n x y z) {c : List Int} (hl : (c.length : Int) = n) : Q16.l1 z c [] 0 = some (.inl (z.map (qP c))) := by
 have nz := R.nz
 have h := Q214 (L := z) (β := Q1) (ρ := (List Q1) × (List Q0) × (List Bs) × (List Int) × Int) (qP c) (body := fun t_ : (List Q1) × Int => Q16.l1b z c t_.1 t_.2) (by omega) [] (fun a i i0 i1 ha => by
  simp only [Q16.l1b]
  rw [if_pos i1, if_pos ⟨i0, i1⟩, q2_run R hl i0 i1, Q10]
  simp only [W4.t, Q266, Option.bind_some]
  rw [if_pos (by simp at ha; omega), wrap64 (x := i + 1) (by omega) (by omega)]
  rfl) (fun a i hi => by simp only [Q16.l1b]; rw [if_neg hi]; rfl)
 rw [List.nil_append] at h
 exact h
theorem q0_run (R : RightS n x y z) {c : List Int} (hl : (c.length : Int) = n) : Q16.l0 y c [] 0 = some (.inl (y.map (qE c))) := by
 have ny := R.ny
 have h := Q214 (L := y) (β := Q0) (ρ := (List Q1) × (List Q0) × (List Bs) × (List Int) × Int) (qE c) (body := fun t_ : (List Q0) × Int => Q16.l0b y c t_.1 t_.2) (by omega) [] (fun a i i0 i1 ha => by
  have hE := R.ed _ (Q32 i0 i1)
  unfold EdgeIn at hE
  simp only [Q16.l0b]
  rw [if_pos i1, if_pos ⟨i0, i1⟩, if_pos ⟨by omega, by omega⟩, if_pos ⟨by omega, by omega⟩, if_pos (by simp; simp at ha; omega), wrap64 (x := i + 1) (by omega) (by omega)]
  rfl) (fun a i hi => by simp only [Q16.l0b]; rw [if_neg hi]; rfl)
 rw [List.nil_append] at h
 exact h
theorem Q321 (R : RightS n x y z) {c : List Int} (hc : Q34.f n x y z = some c) (C : Cls n (Hs z) (Es x y) c) :
 ∃ M y', Q16.f n x y z = some (z.map (qP c), y', x, c, M + 1) ∧ (0 ≤ M ∧ M < n) ∧ M ∈ c ∧ (∀ v ∈ c, 0 ≤ v ∧ v ≤ M) ∧ y'.Pairwise edgeLt ∧ (∀ e, e ∈ y' ↔ e ∈ y.map (qE c)) ∧ y'.length ≤ y.length := by
 have n0 := R.n0
 have n1 := R.n1
 have nx := R.nx
 have hl := C.len
 have hcan := Q232 C.canon
 obtain ⟨M, hM, hM1, hM2⟩ := max_run (c := c) (by omega) (by omega)
 have hv : ∀ v ∈ c, 0 ≤ v ∧ v < n := fun v hv => by
  obtain ⟨q, hq, rfl⟩ := List.getElem_of_mem hv
  have := hcan q (by omega) (by omega)
  rw [Q88 (List.getElem?_eq_getElem hq)] at this
  omega
 have hMn := hv M hM1
 obtain ⟨L, hL, hp, hso⟩ := sort2_run (xs := y.map (qE c)) (by rw [List.length_map]; have := R.ny; omega) (fun e he => by
  obtain ⟨e0, he0, rfl⟩ := List.mem_map.1 he
  have hE := R.ed e0 he0
  unfold EdgeIn at hE
  have h1 := hcan e0.From (by omega) (by omega)
  have h2 := hcan e0.To (by omega) (by omega)
  unfold Small qE
  dsimp only
  omega)
 have hLl : L.length = y.length := by rw [hp.length_eq, List.length_map]
 refine ⟨M, dd L, ?_, hMn, hM1, fun v hvc => ⟨(hv v hvc).1, hM2 v hvc⟩, dd_rise edge_tri hso, fun e => by rw [Q180]; exact hp.mem_iff, by have := dd_len L; omega⟩
 have hcl : Q85.f x = some x := by
  unfold Q85.f
  rw [if_pos (by omega)]
 unfold Q16.f
 rw [hc, Option.bind_some, if_neg (by omega), hM, Option.bind_some, hcl, Option.bind_some, q0_run R hl, Q10, hL, Option.bind_some, Q328 L (by have := R.ny; omega), Option.bind_some, q1_run R hl, Q10, wrap64 (x := M + 1) (by omega) (by omega)]
end
end Go.Bw
namespace Go.Bw
open Go Go.RowKit

theorem list_rise (u : W4) : u.list.Pairwise (· < ·) := by
 have m : ∀ {b : Int} {v : BitVec 64} {t : Int}, t ∈ wplaces b v → b ≤ t ∧ t < b + 64 := fun h => by
  obtain ⟨i, h1, _, rfl⟩ := Q250.1 h
  omega
 unfold W4.list
 refine List.pairwise_append.2 ⟨List.pairwise_append.2 ⟨List.pairwise_append.2 ⟨Q161 _ _, Q161 _ _, fun a ha b hb => ?_⟩, Q161 _ _, fun a ha b hb => ?_⟩, Q161 _ _, fun a ha b hb => ?_⟩
 ·have := m ha; have := m hb; omega
 ·have h2 := m hb
  rcases List.mem_append.1 ha with h | h <;> (have := m h; omega)
 ·have h2 := m hb
  rcases List.mem_append.1 ha with h | h
  ·rcases List.mem_append.1 h with h | h <;> (have := m h; omega)
  ·have := m h; omega
section
variable {n : Int} {x : List Bs} {y y' : List Q0} {z : List Q1} {c : List Int} {M : Int}
structure QI (n : Int) (x : List Bs) (y : List Q0) (z : List Q1) (c : List Int) (M : Int) (y' : List Q0) : Prop where
 R : RightS n x y z
 C : Cls n (Hs z) (Es x y) c
 m : 0 ≤ M ∧ M < n
 mem : M ∈ c
 le : ∀ v ∈ c, 0 ≤ v ∧ v ≤ M
 up : y'.Pairwise edgeLt
 iff : ∀ e, e ∈ y' ↔ e ∈ y.map (qE c)
 len : y'.length ≤ y.length
theorem QI.in_ (q : QI n x y z c M y') {s : Int} (h0 : 0 ≤ s) (h1 : s < n) : 0 ≤ gt c s ∧ gt c s ≤ M := by
 have := q.C.len
 exact q.le _ (Q32 h0 (by omega))
theorem qW_mem (q : QI n x y z c M y') {S : List Int} (hS : ∀ s ∈ S, 0 ≤ s ∧ s < n) {v : Int} : v ∈ (qW c S).list ↔ ∃ t ∈ S, gt c t = v := by
 have n1 := q.R.n1
 have hm := q.m
 have hr := Q197 (gt c) (L := S) (u := W4.z) W4.z_rep (fun t ht => by
  have := q.in_ (hS t ht).1 (hS t ht).2
  omega)
 rw [show (qW c S) = S.foldl (fun u t => putc u (gt c t)) W4.z from rfl, Q160 hr]
 constructor
 ·rintro ⟨_, _, h | h⟩
  ·cases h
  ·exact h
 ·rintro ⟨t, ht, rfl⟩
  have := q.in_ (hS t ht).1 (hS t ht).2
  exact ⟨by omega, by omega, .inr ⟨t, ht, rfl⟩⟩
end
end Go.Bw
namespace Go.Bw
open Go Go.RowKit

instance (a b : Q0) : Decidable (edgeLt a b) := by unfold edgeLt; infer_instance
theorem ahead_run (a b : Q0) : Q112.f a.From a.Action a.To b.From b.Action b.To = some (decide (edgeLt a b)) := by
 unfold Q112.f edgeLt
 by_cases h1 : a.From = b.From
 ·by_cases h2 : a.Action = b.Action
  ·simp [h1, h2]
  ·simp [h1, h2]
 ·simp [h1]
def Ticks (m : Nat) (u : List Bool) (y : List Q0) : Prop := u.length = m ∧ ∀ k : Int, 0 ≤ k → k < (m : Int) → (gt u k = true ↔ ∃ e ∈ y, e.Action = k)
theorem Q315 (n : Int) (x : List Bs) (y : List Q0) (hy : (y.length : Int) ≤ 9223372036854775807) :
 (∃ u, Q30.l0 n x y (List.replicate (x.length : Int).toNat false) 0 = some (.inl u) ∧ Ticks x.length u y ∧ (∀ e ∈ y, EdgeIn n x.length e) ∧ Rise edgeLt y) ∨ (Q30.l0 n x y (List.replicate (x.length : Int).toNat false) 0 = some (.inr false) ∧ ¬ ((∀ e ∈ y, EdgeIn n x.length e) ∧ Rise edgeLt y)) := by
 have hrep : ((List.replicate (x.length : Int).toNat (false : Bool)).length : Int) = x.length := by simp
 obtain ⟨r, hr, hq⟩ := Q25 (body := fun t_ : List Bool × Int => Q30.l0b n x y t_.1 t_.2) (fun s => 0 ≤ s.2 ∧ s.2 ≤ (y.length : Int) ∧ (∀ e ∈ y.take s.2.toNat, EdgeIn n x.length e) ∧ (∀ i : Int, 1 ≤ i → i < s.2 → edgeLt (gt y (i - 1)) (gt y i)) ∧ Ticks x.length s.1 (y.take s.2.toNat))
  (fun r => (∃ u, r = .inl u ∧ Ticks x.length u y ∧ (∀ e ∈ y, EdgeIn n x.length e) ∧ Rise edgeLt y) ∨ (r = .inr false ∧ ¬ ((∀ e ∈ y, EdgeIn n x.length e) ∧ Rise edgeLt y))) (fun s => ((y.length : Int) - s.2).toNat) (fun ⟨u, i⟩ ⟨h0, h1, h2, h3, h4, h5⟩ => by
   dsimp only at h0 h1 h2 h3 h4 h5 ⊢
   unfold Q30.l0b
   by_cases hi : i < (y.length : Int)
   ·have hm := Q32 h0 hi
    rw [if_pos hi, if_pos ⟨h0, hi⟩]
    have bad : ¬ EdgeIn n x.length (gt y i) → ¬ ((∀ e ∈ y, EdgeIn n x.length e) ∧ Rise edgeLt y) := fun hb h => hb (h.1 _ hm)
    by_cases e1 : (gt y i).From < 0
    ·left; exact ⟨.inr false, by simp [e1, jn, upL], .inr ⟨rfl, bad fun h => by have := h.1; omega⟩⟩
    by_cases e2 : n ≤ (gt y i).From
    ·left; exact ⟨.inr false, by simp [e1, e2, jn, upL], .inr ⟨rfl, bad fun h => by have := h.2.1; omega⟩⟩
    by_cases e3 : (gt y i).To < 0
    ·left; exact ⟨.inr false, by simp [e1, e2, e3, jn, upL], .inr ⟨rfl, bad fun h => by have := h.2.2.1; omega⟩⟩
    by_cases e4 : n ≤ (gt y i).To
    ·left; exact ⟨.inr false, by simp [e1, e2, e3, e4, jn, upL], .inr ⟨rfl, bad fun h => by have := h.2.2.2.1; omega⟩⟩
    by_cases e5 : (gt y i).Action < 0
    ·left; exact ⟨.inr false, by simp [e1, e2, e3, e4, e5, jn, upL], .inr ⟨rfl, bad fun h => by have := h.2.2.2.2.1; omega⟩⟩
    by_cases e6 : (x.length : Int) ≤ (gt y i).Action
    ·left; exact ⟨.inr false, by simp [e1, e2, e3, e4, e5, e6, jn, upL], .inr ⟨rfl, bad fun h => by have := h.2.2.2.2.2; omega⟩⟩
    have e7 : (0 : Int) ≤ (gt y i).Action ∧ (gt y i).Action < ((List.replicate (x.length : Int).toNat (false : Bool)).length : Int) := by rw [hrep]; omega
    have hE : EdgeIn n x.length (gt y i) := ⟨by omega, by omega, by omega, by omega, by omega, by omega⟩
    have ht : y.take (i + 1).toNat = y.take i.toNat ++ [gt y i] := by
     rw [show (i + 1).toNat = i.toNat + 1 from by omega, List.take_add_one, Q40 h0 hi]; rfl
    simp only [if_neg e1, Q10, decide_eq_false e2, decide_eq_false e3, decide_eq_false e4, decide_eq_false e5, decide_eq_false e6, Bool.false_eq_true, if_false, if_pos e7]
    have go : (i = 0 ∨ edgeLt (gt y (i - 1)) (gt y i)) → (0 ≤ i + 1 ∧ i + 1 ≤ (y.length : Int) ∧ (∀ e ∈ y.take (i + 1).toNat, EdgeIn n x.length e) ∧ (∀ j : Int, 1 ≤ j → j < i + 1 → edgeLt (gt y (j - 1)) (gt y j)) ∧ Ticks x.length (st u (gt y i).Action true) (y.take (i + 1).toNat)) := fun ho => by
     refine ⟨by omega, by omega, fun e he => ?_, fun j j0 j1 => ?_, by rw [Q93]; exact h4, fun k k0 k1 => ?_⟩
     ·rw [ht] at he
      rcases List.mem_append.1 he with he | he
      ·exact h2 e he
      ·simp at he; subst he; exact hE
     ·by_cases hj : j = i
      ·subst hj; rcases ho with ho | ho
       ·omega
       ·exact ho
      ·exact h3 j j0 (by omega)
     ·rw [Q90 e7.1 (by rw [h4]; omega) k0, ht]
      by_cases hk : k = (gt y i).Action
      ·rw [if_pos hk]; simp only [true_iff]; exact ⟨gt y i, by simp, hk.symm⟩
      ·rw [if_neg hk, h5 k k0 k1]
       constructor
       ·rintro ⟨e, a, b⟩; exact ⟨e, by simp [a], b⟩
       ·rintro ⟨e, a, b⟩
        rcases List.mem_append.1 a with a | a
        ·exact ⟨e, a, b⟩
        ·simp at a; subst a; exact absurd b.symm hk
    have hw : IntKind.i64.wrap (i + 1) = i + 1 := wrap64 (by omega) (by omega)
    by_cases hi0 : 0 < i
    ·have hc : (0 : Int) ≤ i - 1 ∧ i - 1 < (y.length : Int) := by omega
     rw [if_pos hi0, wrap64 (x := i - 1) (by omega) (by omega), if_pos hc, ahead_run]
     simp only [Option.bind_some, Q10]
     by_cases hl : edgeLt (gt y (i - 1)) (gt y i)
     ·right
      refine ⟨(st u (gt y i).Action true, i + 1), by simp [hl, nx, hw], go (.inr hl), by dsimp only; omega⟩
     ·left
      exact ⟨.inr false, by simp [hl, upL], .inr ⟨rfl, fun h => hl (h.2 i (by omega) hi)⟩⟩
    ·right
     rw [if_neg hi0, Q10]
     refine ⟨(st u (gt y i).Action true, i + 1), by simp [nx, hw], go (.inl (by omega)), by dsimp only; omega⟩
   ·left
    rw [if_neg hi]
    rw [List.take_of_length_le (by omega)] at h2
    refine ⟨_, rfl, .inl ⟨u, rfl, ⟨h4, ?_⟩, h2, fun j j0 j1 => h3 j j0 (by omega)⟩⟩
    rw [List.take_of_length_le (by omega)] at h5
    exact h5) (List.replicate (x.length : Int).toNat false, 0) ⟨Int.le_refl _, by dsimp only; omega, by simp, fun j j0 j1 => by dsimp only at j1; omega, by simp, fun k k0 k1 => by
    dsimp only
    unfold gt
    rw [List.getD_eq_getElem?_getD, List.getElem?_replicate]
    split <;> simp⟩
 rcases hq with ⟨u, rfl, h⟩ | ⟨rfl, h⟩
 ·exact .inl ⟨u, hr, h⟩
 ·exact .inr ⟨hr, h⟩
theorem Q343 (n : Int) (x : List Bs) (y : List Q0) (z : List Q1) (hy : (y.length : Int) ≤ 9223372036854775807) (hx : x.length ≤ 8) :
 ∃ b, Q30.f n x y z = some b ∧ (b = true ↔ (∀ e ∈ y, EdgeIn n x.length e) ∧ Rise edgeLt y ∧ UsedS x.length y) := by
 have hrep : ((List.replicate (x.length : Int).toNat (false : Bool)).length : Int) = x.length := by simp
 unfold Q30.f
 rw [if_pos (by omega)]
 rcases Q315 n x y hy with ⟨u, hu, ⟨t1, t2⟩, he, hr⟩ | ⟨hu, hn⟩
 ·rw [hu, Q10]
  rcases Q115 (body := fun t_ : Int => Q30.l1b x u t_) (N := x.length) (p := fun i => gt u i = true) (bad := false) (by omega) 0 (by decide) (fun i h0 h1 => by
   simp only [Q30.l1b]
   rw [hrep, if_pos h1, if_pos ⟨h0, h1⟩]
   by_cases hp : gt u i = true
   ·left; rw [if_pos hp]; exact ⟨hp, rfl⟩
   ·right; rw [if_neg hp]; exact ⟨hp, rfl⟩) (fun i h => by simp only [Q30.l1b]; rw [hrep, if_neg h]; rfl) with ⟨h, q⟩ | ⟨h, i, i0, i1, i2⟩
  ·exact ⟨true, by rw [show Q30.l1 x u 0 = _ from h]; rfl, by simp only [true_iff]; exact ⟨he, hr, fun k k0 k1 => (t2 k k0 k1).1 (q k k0 k1)⟩⟩
  ·exact ⟨false, by rw [show Q30.l1 x u 0 = _ from h]; rfl, by simp only [Bool.false_eq_true, false_iff]; exact fun hh => i2 ((t2 i i0 i1).2 (hh.2.2 i i0 i1))⟩
 ·rw [hu]
  exact ⟨false, rfl, by simp only [Bool.false_eq_true, false_iff]; exact fun hh => hn ⟨hh.1, hh.2.1⟩⟩
end Go.Bw
namespace Go.Bw
open Go Go.RowKit

theorem by_run (n : Int) (x : List Bs) (y : List Q0) (z : List Q1) (e : Q0) (a : Bs) (h0 : 0 ≤ e.Action) (h1 : e.Action < (x.length : Int)) : ∃ b, Q114.f n x y z e.From e.Action e.To a = some b ∧ (b = true ↔ gt x e.Action = a ∨ a = [45]) := by
 unfold Q114.f
 by_cases h : bseq a [45] = true
 ·exact ⟨true, by simp [h, jn], by simp [Q65.1 h]⟩
 ·refine ⟨bseq (gt x e.Action) a, by simp [h, h0, h1, jn], ?_⟩
  rw [Q65]
  exact ⟨.inl, fun q => q.elim id fun q => absurd (Q65.2 q) h⟩
def WRep (v : BitVec 64) (S : Int → Prop) : Prop := ∀ q : Nat, q < 64 → (v.getLsbD q = true ↔ S q)
theorem wput {v : BitVec 64} {S : Int → Prop} (h : WRep v S) {t : Int} (h0 : 0 ≤ t) (h1 : t < 64) : bor .u64 (Wd v) (Bw.shl .u64 1 (IntKind.u64.wrap t)) = Wd (v ||| BitVec.twoPow 64 t.toNat) ∧ WRep (v ||| BitVec.twoPow 64 t.toNat) (fun q => S q ∨ q = t) := by
 rw [wrapu (x := t) (by omega) (by omega), shl_one h0 h1, bor_wd]
 refine ⟨rfl, fun q hq => ?_⟩
 rw [BitVec.getLsbD_or, Bool.or_eq_true, h q hq, BitVec.getLsbD_twoPow]
 refine or_congr Iff.rfl ?_
 simp
 omega
theorem Q227 (n : Int) (x : List Bs) (y : List Q0) (z : List Q1) (s : Int) (a : Bs) (hn : n ≤ 24) (hy : (y.length : Int) ≤ 9223372036854775807) (he : ∀ e ∈ y, EdgeIn n x.length e) :
 ∃ v, Q47.f n x y z s a = some (Wd v) ∧ WRep v (Hit x y ⟨s, a⟩) := by
 obtain ⟨r, hr, v, rfl, hv⟩ := Q25 (body := fun t_ : Int × Int => Q47.l0b n x y z s a t_.1 t_.2) (fun q => 0 ≤ q.2 ∧ q.2 ≤ (y.length : Int) ∧ ∃ v, q.1 = Wd v ∧ WRep v (Hit x (y.take q.2.toNat) ⟨s, a⟩))
  (fun r => ∃ v, r = .inl (Wd v) ∧ WRep v (Hit x y ⟨s, a⟩)) (fun q => ((y.length : Int) - q.2).toNat) (fun ⟨w, i⟩ ⟨h0, h1, v, h2, h3⟩ => by
   dsimp only at h0 h1 h2 h3 ⊢
   subst h2
   unfold Q47.l0b
   by_cases hi : i < (y.length : Int)
   ·right
    have hE := he _ (Q32 h0 hi)
    obtain ⟨b, hb, hb2⟩ := by_run n x y z (gt y i) a hE.2.2.2.2.1 hE.2.2.2.2.2
    have hw : IntKind.i64.wrap (i + 1) = i + 1 := wrap64 (by omega) (by omega)
    have ht : y.take (i + 1).toNat = y.take i.toNat ++ [gt y i] := by
     rw [show (i + 1).toNat = i.toNat + 1 from by omega, List.take_add_one, Q40 h0 hi]; rfl
    have hcw : (0 : Int) ≤ IntKind.u64.wrap (gt y i).To := by rw [wrapu (x := (gt y i).To) hE.2.2.1 (by have := hE.2.2.2.1; omega)]; exact hE.2.2.1
    rw [if_pos hi, if_pos ⟨h0, hi⟩, hb]
    by_cases hh : b = true ∧ (gt y i).From = s
    ·obtain ⟨rfl, hs⟩ := hh
     obtain ⟨p1, p2⟩ := wput h3 hE.2.2.1 (by have := hE.2.2.2.1; omega)
     refine ⟨(Wd (v ||| BitVec.twoPow 64 (gt y i).To.toNat), i + 1), by simp [hs, jn, nx, hcw, p1, hw], ⟨by dsimp only; omega, by dsimp only; omega, _, rfl, fun q hq => ?_⟩, by dsimp only; omega⟩
     dsimp only
     rw [p2 q hq, ht]
     constructor
     ·rintro (⟨e, a1, a2⟩ | h)
      ·exact ⟨e, by simp [a1], a2⟩
      ·exact ⟨gt y i, by simp, hs, h.symm, hb2.1 rfl⟩
     ·rintro ⟨e, a1, a2, a3, a4⟩
      rcases List.mem_append.1 a1 with a1 | a1
      ·exact .inl ⟨e, a1, a2, a3, a4⟩
      ·simp at a1; subst a1; exact .inr a3.symm
    ·refine ⟨(Wd v, i + 1), by cases b <;> simp_all [jn, nx], ⟨by dsimp only; omega, by dsimp only; omega, v, rfl, fun q hq => ?_⟩, by dsimp only; omega⟩
     dsimp only
     rw [h3 q hq, ht]
     constructor
     ·rintro ⟨e, a1, a2⟩; exact ⟨e, by simp [a1], a2⟩
     ·rintro ⟨e, a1, a2, a3, a4⟩
      rcases List.mem_append.1 a1 with a1 | a1
      ·exact ⟨e, a1, a2, a3, a4⟩
      ·simp at a1; subst a1; exact absurd ⟨hb2.2 a4, a2⟩ hh
   ·left
    rw [if_neg hi]
    rw [List.take_of_length_le (by omega)] at h3
    exact ⟨_, rfl, v, rfl, h3⟩) (0, 0) ⟨Int.le_refl _, by dsimp only; omega, 0#64, rfl, fun q hq => by simp [Hit]⟩
 refine ⟨v, ?_, hv⟩
 unfold Q47.f
 have hl : Q47.l0 n x y z s a 0 0 = some (.inl (Wd v)) := hr
 rw [hl, Q10]
end Go.Bw
namespace Go.Bw
open Go Go.RowKit

theorem Q298 (z : List Q1) (i : Int) (ha : ((gt z i).States.length : Int) ≤ 9223372036854775807) (hin : ∀ s ∈ (gt z i).States, 0 ≤ s ∧ s < 64) {v : BitVec 64} {S : Int → Prop} (hv : WRep v S) :
 ∃ u, Q35.l1 z i (Wd v) 0 = some (.inl (Wd u)) ∧ WRep u (fun t => S t ∨ t ∈ (gt z i).States) := by
 generalize hL : (gt z i).States = L at ha hin
 obtain ⟨r, hr, u, rfl, hu⟩ := Q25 (body := fun t_ : Int × Int => Q35.l1b z i t_.1 t_.2) (fun q => 0 ≤ q.2 ∧ q.2 ≤ (L.length : Int) ∧ ∃ u, q.1 = Wd u ∧ WRep u (fun t => S t ∨ t ∈ L.take q.2.toNat))
  (fun r => ∃ u, r = .inl (Wd u) ∧ WRep u (fun t => S t ∨ t ∈ L)) (fun q => ((L.length : Int) - q.2).toNat) (fun ⟨w, k⟩ ⟨h0, h1, u, h2, h3⟩ => by
   dsimp only at h0 h1 h2 h3 ⊢
   subst h2
   unfold Q35.l1b
   rw [hL]
   by_cases hk : k < (L.length : Int)
   ·right
    have hs := hin _ (Q32 h0 hk)
    obtain ⟨p1, p2⟩ := wput h3 hs.1 hs.2
    have hw : IntKind.i64.wrap (k + 1) = k + 1 := wrap64 (by omega) (by omega)
    have hc : (0 : Int) ≤ IntKind.u64.wrap (gt L k) := by rw [wrapu hs.1 (by omega)]; exact hs.1
    rw [if_pos hk, if_pos ⟨h0, hk⟩, if_pos hc, p1, hw]
    refine ⟨_, rfl, ⟨by dsimp only; omega, by dsimp only; omega, _, rfl, fun q hq => ?_⟩, by dsimp only; omega⟩
    dsimp only
    rw [p2 q hq, show (k + 1).toNat = k.toNat + 1 from by omega, List.take_add_one, Q40 h0 hk, List.mem_append]
    simp [or_assoc]
   ·left
    rw [if_neg hk]
    rw [List.take_of_length_le (by omega)] at h3
    exact ⟨_, rfl, u, rfl, h3⟩) (Wd v, 0) ⟨Int.le_refl _, by dsimp only; omega, v, rfl, fun q hq => by simp [hv q hq]⟩
 exact ⟨u, hr, hu⟩
theorem Q330 (n : Int) (x : List Bs) (y : List Q0) (z : List Q1) (a : Bs) (hz : (z.length : Int) ≤ 9223372036854775807) (hs : ∀ p ∈ z, (p.States.length : Int) ≤ 9223372036854775807) (hin : ∀ p ∈ z, ∀ s ∈ p.States, 0 ≤ s ∧ s < 64) :
 ∃ v, Q35.f n x y z a = some (Wd v) ∧ WRep v (fun t => ∃ p ∈ z, p.Name = a ∧ t ∈ p.States) := by
 obtain ⟨r, hr, v, rfl, hv⟩ := Q25 (body := fun t_ : Int × Int => Q35.l0b z a t_.1 t_.2) (fun q => 0 ≤ q.2 ∧ q.2 ≤ (z.length : Int) ∧ ∃ v, q.1 = Wd v ∧ WRep v (fun t => ∃ p ∈ z.take q.2.toNat, p.Name = a ∧ t ∈ p.States))
  (fun r => ∃ v, r = .inl (Wd v) ∧ WRep v (fun t => ∃ p ∈ z, p.Name = a ∧ t ∈ p.States)) (fun q => ((z.length : Int) - q.2).toNat) (fun ⟨w, i⟩ ⟨h0, h1, v, h2, h3⟩ => by
   dsimp only at h0 h1 h2 h3 ⊢
   subst h2
   unfold Q35.l0b
   by_cases hi : i < (z.length : Int)
   ·right
    have hm := Q32 h0 hi
    have hw : IntKind.i64.wrap (i + 1) = i + 1 := wrap64 (by omega) (by omega)
    have ht : z.take (i + 1).toNat = z.take i.toNat ++ [gt z i] := by
     rw [show (i + 1).toNat = i.toNat + 1 from by omega, List.take_add_one, Q40 h0 hi]; rfl
    rw [if_pos hi, if_pos ⟨h0, hi⟩]
    by_cases hb : bseq (gt z i).Name a = true
    ·obtain ⟨u, hu, hru⟩ := Q298 z i (hs _ hm) (hin _ hm) h3
     rw [if_pos hb, hu, Q10, Q10, hw]
     refine ⟨_, rfl, ⟨by dsimp only; omega, by dsimp only; omega, _, rfl, fun q hq => ?_⟩, by dsimp only; omega⟩
     dsimp only
     rw [hru q hq, ht]
     constructor
     ·rintro (⟨p, p1, p2⟩ | h)
      ·exact ⟨p, by simp [p1], p2⟩
      ·exact ⟨gt z i, by simp, Q65.1 hb, h⟩
     ·rintro ⟨p, p1, p2, p3⟩
      rcases List.mem_append.1 p1 with p1 | p1
      ·exact .inl ⟨p, p1, p2, p3⟩
      ·simp at p1; subst p1; exact .inr p3
    ·rw [if_neg hb, Q10, hw]
     refine ⟨_, rfl, ⟨by dsimp only; omega, by dsimp only; omega, v, rfl, fun q hq => ?_⟩, by dsimp only; omega⟩
     dsimp only
     rw [h3 q hq, ht]
     constructor
     ·rintro ⟨p, p1, p2⟩; exact ⟨p, by simp [p1], p2⟩
     ·rintro ⟨p, p1, p2, p3⟩
      rcases List.mem_append.1 p1 with p1 | p1
      ·exact ⟨p, p1, p2, p3⟩
      ·simp at p1; subst p1; exact absurd (Q65.2 p2) hb
   ·left
    rw [if_neg hi]
    rw [List.take_of_length_le (by omega)] at h3
    exact ⟨_, rfl, v, rfl, h3⟩) (0, 0) ⟨Int.le_refl _, by dsimp only; omega, 0#64, rfl, fun q hq => by simp⟩
 refine ⟨v, ?_, hv⟩
 unfold Q35.f
 have hl : Q35.l0 z a 0 0 = some (.inl (Wd v)) := hr
 rw [hl, Q10]
end Go.Bw
namespace Go.Bw
open Go Go.RowKit

theorem it_go {σ ρ : Type} {body : σ → Option (σ ⊕ ρ)} {s s' : σ} (h : body s = some (.inl s')) : iter body s = iter body s' := by rw [Q67, h]; rfl
theorem it_end {σ ρ : Type} {body : σ → Option (σ ⊕ ρ)} {s : σ} {r : ρ} (h : body s = some (.inr r)) : iter body s = some r := by rw [Q67, h]; rfl
end Go.Bw
namespace Go.Bw
open Go Go.RowKit

def mk2 (A : List (List Bool)) (s t : Int) : Prop := gt (gt A s) t = true
structure Mat (n : Int) (A : List (List Bool)) : Prop where
 len : (A.length : Int) = n
 row : ∀ s : Int, 0 ≤ s → s < n → ((gt A s).length : Int) = n
def Cov (n : Int) (A : List (List Bool)) (a b : Int → Prop) : Prop := ∀ s : Int, 0 ≤ s → s < n → a s → ∃ t : Int, 0 ≤ t ∧ t < n ∧ b t ∧ ¬ mk2 A s t
theorem Q167 {i : Int} (h0 : 0 ≤ i) (h1 : i < 64) : IntKind.u64.wrap i = i := wrapu h0 (by omega)
theorem cov_in {n : Int} {A : List (List Bool)} (hA : Mat n A) (hn : n ≤ 24) {b : BitVec 64} {B : Int → Prop} (hb : WRep b B) {s : Int} (s0 : 0 ≤ s) (s1 : s < n) :
 ∃ f, Q31.l1 A (Wd b) s false 0 = some (.inl f) ∧ (f = true ↔ ∃ t : Int, 0 ≤ t ∧ t < n ∧ B t ∧ ¬ mk2 A s t) := by
 have hl := hA.len
 have hr := hA.row s s0 s1
 obtain ⟨r, hr', f, rfl, hf⟩ := Q25 (body := fun t_ : Bool × Int => Q31.l1b A (Wd b) s t_.1 t_.2) (fun q => 0 ≤ q.2 ∧ q.2 ≤ n ∧ (q.1 = true ↔ ∃ t : Int, 0 ≤ t ∧ t < q.2 ∧ B t ∧ ¬ mk2 A s t))
  (fun r => ∃ f, r = .inl f ∧ (f = true ↔ ∃ t : Int, 0 ≤ t ∧ t < n ∧ B t ∧ ¬ mk2 A s t)) (fun q => (n - q.2).toNat) (fun ⟨f, i⟩ ⟨i0, i1, hf⟩ => by
   dsimp only at i0 i1 hf ⊢
   simp only [Q31.l1b]
   by_cases hi : i < n
   ·right
    rw [if_pos (by omega), wrap64 (x := i + 1) (by omega) (by omega), Q167 i0 (by omega)]
    have hbit := Q159 b i0 (by omega)
    have hB := hb i.toNat (by omega)
    rw [show ((i.toNat : Nat) : Int) = i from by omega] at hB
    cases f with
    | true =>
     obtain ⟨t, t0, t1, h⟩ := hf.1 rfl
     rw [if_pos rfl, Q10]
     exact ⟨_, rfl, ⟨by dsimp only; omega, by dsimp only; omega, ⟨fun _ => ⟨t, t0, by dsimp only; omega, h⟩, fun _ => rfl⟩⟩, by dsimp only; omega⟩
    | false =>
     rw [if_neg (by decide), if_pos i0]
     by_cases hbb : b.getLsbD i.toNat = true
     ·rw [if_pos (hbit.2 hbb), if_pos ⟨s0, by omega⟩, if_pos ⟨i0, by omega⟩, Q10, Q10]
      refine ⟨_, rfl, ⟨by dsimp only; omega, by dsimp only; omega, ?_⟩, by dsimp only; omega⟩
      dsimp only
      constructor
      ·intro h
       exact ⟨i, i0, by omega, hB.1 hbb, fun hm => by unfold mk2 at hm; rw [hm] at h; cases h⟩
      ·rintro ⟨t, t0, t1, h1, h2⟩
       by_cases ht : t = i
       ·subst ht; unfold mk2 at h2; simpa using h2
       ·exact absurd (hf.2 ⟨t, t0, by omega, h1, h2⟩) (by decide)
     ·rw [if_neg (fun h => hbb (hbit.1 h)), Q10, Q10]
      refine ⟨_, rfl, ⟨by dsimp only; omega, by dsimp only; omega, ?_⟩, by dsimp only; omega⟩
      dsimp only
      constructor
      ·intro h; cases h
      ·rintro ⟨t, t0, t1, h1, h2⟩
       by_cases ht : t = i
       ·subst ht; exact absurd (hB.2 h1) hbb
       ·exact hf.2 ⟨t, t0, by omega, h1, h2⟩
   ·left
    have e : i = n := by omega
    subst e
    rw [if_neg (by omega)]
    exact ⟨_, rfl, _, rfl, hf⟩) (false, 0) ⟨Int.le_refl _, by dsimp only; omega, ⟨fun h => Bool.noConfusion h, fun ⟨t, t0, t1, _⟩ => by dsimp only at t1; omega⟩⟩
 exact ⟨f, hr', hf⟩
theorem Q255 {n : Int} {A : List (List Bool)} (hA : Mat n A) (hn : n ≤ 24) {a b : BitVec 64} {Sa Sb : Int → Prop} (ha : WRep a Sa) (hb : WRep b Sb) :
 ∃ f, Q31.f A (Wd a) (Wd b) = some f ∧ (f = true ↔ Cov n A Sa Sb) := by
 have hl := hA.len
 obtain ⟨r, hr', hq⟩ := Q25 (body := fun t_ : Int => Q31.l0b A (Wd a) (Wd b) t_) (fun i => 0 ≤ i ∧ i ≤ n ∧ ∀ s : Int, 0 ≤ s → s < i → Sa s → ∃ t : Int, 0 ≤ t ∧ t < n ∧ Sb t ∧ ¬ mk2 A s t)
  (fun r => (r = .inl () ∧ Cov n A Sa Sb) ∨ (r = .inr false ∧ ¬ Cov n A Sa Sb)) (fun i => (n - i).toNat) (fun i ⟨i0, i1, hc⟩ => by
   simp only [Q31.l0b]
   by_cases hi : i < n
   ·have hbit := Q159 a i0 (by omega)
    have hS := ha i.toNat (by omega)
    rw [show ((i.toNat : Nat) : Int) = i from by omega] at hS
    rw [if_pos (by omega), wrap64 (x := i + 1) (by omega) (by omega), Q167 i0 (by omega), if_pos i0]
    have h01 : band .u64 (Bw.shr .u64 (Wd a) i) 1 = 0 ↔ ¬ band .u64 (Bw.shr .u64 (Wd a) i) 1 = 1 := by
     rw [shr_wd a i0 (by omega), show (1 : Int) = Wd 1#64 from rfl, Q153]
     have := Wd.lt ((a >>> i.toNat) &&& 1#64)
     have h1 : ((a >>> i.toNat) &&& 1#64).toNat ≤ 1 := by
      rw [BitVec.toNat_and]
      exact Nat.and_le_right
     unfold Wd
     rw [show (1#64).toNat = 1 from rfl]
     omega
    by_cases hbb : a.getLsbD i.toNat = true
    ·rw [if_neg (fun h => (h01.1 h) (hbit.2 hbb))]
     obtain ⟨f, hf1, hf2⟩ := cov_in hA hn hb i0 hi
     rw [hf1, Q10]
     cases f with
     | true =>
      right
      refine ⟨_, rfl, ⟨by omega, by omega, fun s s0 s1 hs => ?_⟩, by omega⟩
      by_cases e : s = i
      ·subst e; exact hf2.1 rfl
      ·exact hc s s0 (by omega) hs
     | false =>
      left
      exact ⟨_, rfl, .inr ⟨rfl, fun h => by have := hf2.2 (h i i0 hi (hS.1 hbb)); cases this⟩⟩
    ·rw [if_pos (h01.2 fun h => hbb (hbit.1 h)), Q10]
     right
     refine ⟨_, rfl, ⟨by omega, by omega, fun s s0 s1 hs => ?_⟩, by omega⟩
     by_cases e : s = i
     ·subst e; exact absurd (hS.2 hs) hbb
     ·exact hc s s0 (by omega) hs
   ·left
    rw [if_neg (by omega)]
    exact ⟨_, rfl, .inl ⟨rfl, fun s s0 s1 => hc s s0 (by omega)⟩⟩) 0 ⟨Int.le_refl _, by
    by_cases h : 0 ≤ n
    ·exact h
    ·omega, fun s s0 s1 => by omega⟩
 have hl0 : Q31.l0 A (Wd a) (Wd b) 0 = some r := hr'
 unfold Q31.f
 rw [hl0]
 rcases hq with ⟨rfl, h⟩ | ⟨rfl, h⟩
 ·exact ⟨true, rfl, ⟨fun _ => h, fun _ => rfl⟩⟩
 ·exact ⟨false, rfl, ⟨fun e => Bool.noConfusion e, fun e => absurd e h⟩⟩
section
variable {n : Int} {x : List Bs} {y : List Q0} {z : List Q1}
def Dif (n : Int) (x : List Bs) (y : List Q0) (z : List Q1) (A : List (List Bool)) (s t : Int) : Prop :=
 (∃ i, ¬ (Hs z i s ↔ Hs z i t)) ∨ ∃ i, ¬ (Cov n A (Es x y i s) (Es x y i t) ∧ Cov n A (Es x y i t) (Es x y i s))
theorem differ_l0 (R : RightS n x y z) {s t : Int} (s0 : 0 ≤ s) (s1 : s < n) (t0 : 0 ≤ t) (t1 : t < n) :
 (Q28.l0 n x y z s t 0 = some (.inl ()) ∧ ∀ i, Hs z i s ↔ Hs z i t) ∨ (Q28.l0 n x y z s t 0 = some (.inr true) ∧ ∃ i, ¬ (Hs z i s ↔ Hs z i t)) := by
 have n1 := R.n1
 have nz := R.nz
 obtain ⟨r, hr', hq⟩ := Q25 (body := fun t_ : Int => Q28.l0b n x y z s t t_) (fun i => 0 ≤ i ∧ i ≤ (z.length : Int) ∧ ∀ j : Nat, (j : Int) < i → (Hs z j s ↔ Hs z j t))
  (fun r => (r = .inl () ∧ ∀ i, Hs z i s ↔ Hs z i t) ∨ (r = .inr true ∧ ∃ i, ¬ (Hs z i s ↔ Hs z i t))) (fun i => ((z.length : Int) - i).toNat) (fun i ⟨i0, i1, hc⟩ => by
   simp only [Q28.l0b]
   by_cases hi : i < (z.length : Int)
   ·obtain ⟨v, hv, hw⟩ := Q330 n x y z (gt z i).Name (by omega) (fun p hp => by have := Q190 n1 (R.pr p hp).2; omega) (fun p hp q hq => by have := (R.pr p hp).2.1 q hq; omega)
    rw [if_pos hi, if_pos ⟨i0, hi⟩, hv, Option.bind_some, Q167 s0 (by omega), Q167 t0 (by omega), if_pos s0, if_pos t0, wrap64 (x := i + 1) (by omega) (by omega)]
    have h1 := Q159 v s0 (by omega)
    have h2 := Q159 v t0 (by omega)
    have hs := hw s.toNat (by omega)
    have ht := hw t.toNat (by omega)
    rw [show ((s.toNat : Nat) : Int) = s from by omega] at hs
    rw [show ((t.toNat : Nat) : Int) = t from by omega] at ht
    have e1 : Hs z i.toNat s ↔ v.getLsbD s.toNat = true := by
     rw [hs]; unfold Hs
     rw [show ((i.toNat : Nat) : Int) = i from by omega]
     exact ⟨fun h => h.2, fun h => ⟨by omega, h⟩⟩
    have e2 : Hs z i.toNat t ↔ v.getLsbD t.toNat = true := by
     rw [ht]; unfold Hs
     rw [show ((i.toNat : Nat) : Int) = i from by omega]
     exact ⟨fun h => h.2, fun h => ⟨by omega, h⟩⟩
    have two : ∀ q : Int, (0 ≤ q ∧ q < 64) → band .u64 (Bw.shr .u64 (Wd v) q) 1 = 0 ∨ band .u64 (Bw.shr .u64 (Wd v) q) 1 = 1 := fun q hq => by
     rw [shr_wd v hq.1 hq.2, show (1 : Int) = Wd 1#64 from rfl, Q153]
     have h1 : ((v >>> q.toNat) &&& 1#64).toNat ≤ 1 := by
      rw [BitVec.toNat_and]
      exact Nat.and_le_right
     unfold Wd
     rw [show (1#64).toNat = 1 from rfl]
     omega
    have b1 := two s ⟨s0, by omega⟩
    have b2 := two t ⟨t0, by omega⟩
    have key : (band .u64 (Bw.shr .u64 (Wd v) s) 1 = band .u64 (Bw.shr .u64 (Wd v) t) 1) ↔ (Hs z i.toNat s ↔ Hs z i.toNat t) := by
     rw [e1, e2, ← h1, ← h2]
     constructor
     ·intro h; rw [h]
     ·intro h
      rcases b1 with b1 | b1
      ·rcases b2 with b2 | b2
       ·rw [b1, b2]
       ·have := h.2 b2; rw [b1] at this; cases this
      ·rw [b1, h.1 b1]
    by_cases he : band .u64 (Bw.shr .u64 (Wd v) s) 1 = band .u64 (Bw.shr .u64 (Wd v) t) 1
    ·right
     rw [if_pos he]
     refine ⟨_, rfl, ⟨by omega, by omega, fun j hj => ?_⟩, by omega⟩
     by_cases hji : (j : Int) = i
     ·have : j = i.toNat := by omega
      subst this; exact key.1 he
     ·exact hc j (by omega)
    ·left
     rw [if_neg he]
     exact ⟨_, rfl, .inr ⟨rfl, i.toNat, fun h => he (key.2 h)⟩⟩
   ·left
    rw [if_neg hi]
    refine ⟨_, rfl, .inl ⟨rfl, fun j => ?_⟩⟩
    by_cases hj : j < z.length
    ·exact hc j (by omega)
    ·exact ⟨fun h => absurd h.1 hj, fun h => absurd h.1 hj⟩) 0 ⟨Int.le_refl _, by omega, fun j hj => by omega⟩
 have hl0 : Q28.l0 n x y z s t 0 = some r := hr'
 rcases hq with ⟨rfl, h⟩ | ⟨rfl, h⟩
 ·exact .inl ⟨hl0, h⟩
 ·exact .inr ⟨hl0, h⟩
theorem differ_l1 (R : RightS n x y z) {A : List (List Bool)} (hA : Mat n A) (s t : Int) :
 (Q28.l1 n x y z A s t 0 = some (.inl ()) ∧ ∀ i, Cov n A (Es x y i s) (Es x y i t) ∧ Cov n A (Es x y i t) (Es x y i s)) ∨
 (Q28.l1 n x y z A s t 0 = some (.inr true) ∧ ∃ i, ¬ (Cov n A (Es x y i s) (Es x y i t) ∧ Cov n A (Es x y i t) (Es x y i s))) := by
 have n1 := R.n1
 have nx := R.nx
 have ny := R.ny
 obtain ⟨r, hr', hq⟩ := Q25 (body := fun t_ : Int => Q28.l1b n x y z A s t t_) (fun i => 0 ≤ i ∧ i ≤ (x.length : Int) ∧ ∀ j : Nat, (j : Int) < i → Cov n A (Es x y j s) (Es x y j t) ∧ Cov n A (Es x y j t) (Es x y j s))
  (fun r => (r = .inl () ∧ ∀ i, Cov n A (Es x y i s) (Es x y i t) ∧ Cov n A (Es x y i t) (Es x y i s)) ∨ (r = .inr true ∧ ∃ i, ¬ (Cov n A (Es x y i s) (Es x y i t) ∧ Cov n A (Es x y i t) (Es x y i s)))) (fun i => ((x.length : Int) - i).toNat) (fun i ⟨i0, i1, hc⟩ => by
   simp only [Q28.l1b]
   by_cases hi : i < (x.length : Int)
   ·obtain ⟨v, hv, hw⟩ := Q227 n x y z s (gt x i) n1 (by omega) R.ed
    obtain ⟨u, hu, hw'⟩ := Q227 n x y z t (gt x i) n1 (by omega) R.ed
    have ev : WRep v (Es x y i.toNat s) := fun q hq => by
     rw [hw q hq]; unfold Es
     rw [show ((i.toNat : Nat) : Int) = i from by omega]
     exact ⟨fun h => ⟨by omega, h⟩, fun h => h.2⟩
    have eu : WRep u (Es x y i.toNat t) := fun q hq => by
     rw [hw' q hq]; unfold Es
     rw [show ((i.toNat : Nat) : Int) = i from by omega]
     exact ⟨fun h => ⟨by omega, h⟩, fun h => h.2⟩
    obtain ⟨f1, g1, k1⟩ := Q255 hA n1 ev eu
    obtain ⟨f2, g2, k2⟩ := Q255 hA n1 eu ev
    rw [if_pos hi, if_pos ⟨i0, hi⟩, hv, Option.bind_some, hu, Option.bind_some, g1, Option.bind_some, g2, Option.bind_some, wrap64 (x := i + 1) (by omega) (by omega)]
    have bad : ¬ (f1 = true ∧ f2 = true) → ∃ i, ¬ (Cov n A (Es x y i s) (Es x y i t) ∧ Cov n A (Es x y i t) (Es x y i s)) := fun h => ⟨i.toNat, fun q => h ⟨k1.2 q.1, k2.2 q.2⟩⟩
    cases f1 with
    | false => left; exact ⟨_, rfl, .inr ⟨rfl, bad fun h => Bool.noConfusion h.1⟩⟩
    | true =>
     cases f2 with
     | false => left; exact ⟨_, rfl, .inr ⟨rfl, bad fun h => Bool.noConfusion h.2⟩⟩
     | true =>
      right
      refine ⟨_, rfl, ⟨by omega, by omega, fun j hj => ?_⟩, by omega⟩
      by_cases hji : (j : Int) = i
      ·have : j = i.toNat := by omega
       subst this; exact ⟨k1.1 rfl, k2.1 rfl⟩
      ·exact hc j (by omega)
   ·left
    rw [if_neg hi]
    refine ⟨_, rfl, .inl ⟨rfl, fun j => ?_⟩⟩
    by_cases hj : j < x.length
    ·exact hc j (by omega)
    ·exact ⟨fun q _ _ h => absurd h.1 hj, fun q _ _ h => absurd h.1 hj⟩) 0 ⟨Int.le_refl _, by omega, fun j hj => by omega⟩
 have hl0 : Q28.l1 n x y z A s t 0 = some r := hr'
 rcases hq with ⟨rfl, h⟩ | ⟨rfl, h⟩
 ·exact .inl ⟨hl0, h⟩
 ·exact .inr ⟨hl0, h⟩
theorem Q319 (R : RightS n x y z) {A : List (List Bool)} (hA : Mat n A) {s t : Int} (s0 : 0 ≤ s) (s1 : s < n) (t0 : 0 ≤ t) (t1 : t < n) :
 ∃ d, Q28.f n x y z A s t = some d ∧ (d = true ↔ Dif n x y z A s t) := by
 unfold Q28.f
 rcases differ_l0 R s0 s1 t0 t1 with ⟨h, k⟩ | ⟨h, k⟩
 ·rcases differ_l1 R hA s t with ⟨h', k'⟩ | ⟨h', k'⟩
  ·refine ⟨false, by rw [h, Q10, h', Q10], ⟨fun e => Bool.noConfusion e, ?_⟩⟩
   rintro (⟨i, hi⟩ | ⟨i, hi⟩)
   ·exact absurd (k i) hi
   ·exact absurd (k' i) hi
  ·exact ⟨true, by rw [h, Q10, h']; rfl, ⟨fun _ => .inr k', fun _ => rfl⟩⟩
 ·exact ⟨true, by rw [h]; rfl, ⟨fun _ => .inl k, fun _ => rfl⟩⟩
end
end Go.Bw
namespace Go.Bw
open Go Go.RowKit

def put2 (A : List (List Bool)) (s t : Int) (d : Bool) : List (List Bool) := st A s (st (gt A s) t d)
theorem Q283 {n : Int} {A : List (List Bool)} (hA : Mat n A) {s t : Int} (s0 : 0 ≤ s) (s1 : s < n) (d : Bool) : Mat n (put2 A s t d) := by
 have hl := hA.len
 refine ⟨by unfold put2; rw [Q93]; exact hl, fun a a0 a1 => ?_⟩
 unfold put2
 rw [Q90 s0 (by omega) a0]
 split
 ·rw [Q93]; exact hA.row s s0 s1
 ·exact hA.row a a0 a1
theorem Q267 {n : Int} {A : List (List Bool)} (hA : Mat n A) {s t : Int} (s0 : 0 ≤ s) (s1 : s < n) (t0 : 0 ≤ t) (t1 : t < n) (d : Bool) {a b : Int} (a0 : 0 ≤ a) (b0 : 0 ≤ b) :
 gt (gt (put2 A s t d) a) b = if a = s ∧ b = t then d else gt (gt A a) b := by
 have hl := hA.len
 have hr := hA.row s s0 s1
 unfold put2
 rw [Q90 s0 (by omega) a0]
 by_cases ha : a = s
 ·subst ha
  rw [if_pos rfl, Q90 t0 (by omega) b0]
  by_cases hb : b = t
  ·rw [if_pos hb, if_pos ⟨rfl, hb⟩]
  ·rw [if_neg hb, if_neg fun h => hb h.2]
 ·rw [if_neg ha, if_neg fun h => ha h.1]
theorem st_self {α : Type} [Inhabited α] {xs : List α} {i : Int} {v : α} (h0 : 0 ≤ i) (h1 : i < (xs.length : Int)) (h : gt xs i = v) : st xs i v = xs := by
 refine ext_gt (Q93 _ _ _) fun k hk => ?_
 rw [Q93] at hk
 rw [Q90 h0 h1 (by omega)]
 split
 ·rename_i e; rw [e, h]
 ·rfl
theorem put2_same {n : Int} {A : List (List Bool)} (hA : Mat n A) {s t : Int} (s0 : 0 ≤ s) (s1 : s < n) (t0 : 0 ≤ t) (t1 : t < n) {d : Bool} (h : gt (gt A s) t = d) : put2 A s t d = A := by
 have hl := hA.len
 have hr := hA.row s s0 s1
 unfold put2
 rw [st_self t0 (by omega) h, st_self s0 (by omega) rfl]
theorem st_st {α : Type} (xs : List α) (i : Int) (a b : α) : st (st xs i a) i b = st xs i b := by unfold st; simp
section
variable {n : Int} {x : List Bs} {y : List Q0} {z : List Q1}
def In2 (n s t : Int) : Prop := 0 ≤ s ∧ s < n ∧ 0 ≤ t ∧ t < n
def Snd (n : Int) (x : List Bs) (y : List Q0) (z : List Q1) (A : List (List Bool)) : Prop := ∀ s t, In2 n s t → mk2 A s t → ¬ Alike (Hs z) (Es x y) s t
theorem dif_sound (R : RightS n x y z) {A : List (List Bool)} (hS : Snd n x y z A) {s t : Int} (h : Dif n x y z A s t) : ¬ Alike (Hs z) (Es x y) s t := fun ha => by
 have hw := Q99 R.n1 R.ed
 have half : ∀ {s t : Int}, Alike (Hs z) (Es x y) s t → ∀ i, Cov n A (Es x y i s) (Es x y i t) := fun {s t} ha i s' s0 s1 he => by
  obtain ⟨t', e1, q⟩ := Alike.ks.fw s t ha i s' he
  have w := hw _ _ _ e1
  exact ⟨t', w.2.2.1, w.2.2.2, e1, fun hm => hS s' t' ⟨s0, s1, w.2.2.1, w.2.2.2⟩ hm q⟩
 rcases h with ⟨i, hi⟩ | ⟨i, hi⟩
 ·exact hi (Alike.ks.hd s t ha i)
 ·exact hi ⟨half ha i, half ha.symm i⟩
def Shut (n : Int) (x : List Bs) (y : List Q0) (z : List Q1) (A : List (List Bool)) : Prop := ∀ s t, In2 n s t → ¬ mk2 A s t → ¬ Dif n x y z A s t
theorem Q342 (R : RightS n x y z) {A : List (List Bool)} (hA : Shut n x y z A) {s t : Int} (hi : In2 n s t) (h : ¬ mk2 A s t) : Alike (Hs z) (Es x y) s t := by
 have hw := Q99 R.n1 R.ed
 have hd : ∀ {s t : Int}, In2 n s t → ¬ mk2 A s t → (∀ i, Hs z i s ↔ Hs z i t) ∧ ∀ i, Cov n A (Es x y i s) (Es x y i t) ∧ Cov n A (Es x y i t) (Es x y i s) := fun {s t} hi h => by
  have hn := hA s t hi h
  refine ⟨fun i => ?_, fun i => ?_⟩
  ·exact Classical.byContradiction fun q => hn (.inl ⟨i, q⟩)
  ·exact Classical.byContradiction fun q => hn (.inr ⟨i, q⟩)
 refine ⟨fun a b => (In2 n a b ∧ ¬ mk2 A a b) ∨ (In2 n b a ∧ ¬ mk2 A b a), ⟨?_, ?_, ?_⟩, .inl ⟨hi, h⟩⟩
 ·rintro a b (⟨h1, h2⟩ | ⟨h1, h2⟩) i
  ·exact (hd h1 h2).1 i
  ·exact ((hd h1 h2).1 i).symm
 ·rintro a b (⟨h1, h2⟩ | ⟨h1, h2⟩) i a' e
  ·have w := hw _ _ _ e
   obtain ⟨b', b0, b1, e', q⟩ := ((hd h1 h2).2 i).1 a' w.2.2.1 w.2.2.2 e
   exact ⟨b', e', .inl ⟨⟨w.2.2.1, w.2.2.2, b0, b1⟩, q⟩⟩
  ·have w := hw _ _ _ e
   obtain ⟨b', b0, b1, e', q⟩ := ((hd h1 h2).2 i).2 a' w.2.2.1 w.2.2.2 e
   exact ⟨b', e', .inl ⟨⟨w.2.2.1, w.2.2.2, b0, b1⟩, q⟩⟩
 ·rintro a b (⟨h1, h2⟩ | ⟨h1, h2⟩) i b' e
  ·have w := hw _ _ _ e
   obtain ⟨a', a0, a1, e', q⟩ := ((hd h1 h2).2 i).2 b' w.2.2.1 w.2.2.2 e
   exact ⟨a', e', .inr ⟨⟨w.2.2.1, w.2.2.2, a0, a1⟩, q⟩⟩
  ·have w := hw _ _ _ e
   obtain ⟨a', a0, a1, e', q⟩ := ((hd h1 h2).2 i).1 b' w.2.2.1 w.2.2.2 e
   exact ⟨a', e', .inr ⟨⟨w.2.2.1, w.2.2.2, a0, a1⟩, q⟩⟩
structure Pass (n : Int) (x : List Bs) (y : List Q0) (z : List Q1) (A0 A : List (List Bool)) (m : Bool) (V : Int → Int → Prop) : Prop where
 mat : Mat n A
 snd : Snd n x y z A
 up : ∀ s t, In2 n s t → mk2 A0 s t → mk2 A s t
 no : m = false → A = A0 ∧ ∀ s t, In2 n s t → V s t → ¬ mk2 A0 s t → ¬ Dif n x y z A0 s t
 yes : m = true → ∃ s t, In2 n s t ∧ ¬ mk2 A0 s t ∧ mk2 A s t
theorem pass_in (R : RightS n x y z) {A0 A : List (List Bool)} {m : Bool} {s : Int} (s0 : 0 ≤ s) (s1 : s < n) (h : Pass n x y z A0 A m (fun a b => a < s)) :
 ∃ A' m', Q15.l5 n x y z s A m 0 = some (.inl (A', m')) ∧ Pass n x y z A0 A' m' (fun a b => a < s + 1) := by
 have n1 := R.n1
 obtain ⟨r, hr, A', m', rfl, hq⟩ := Q25 (body := fun t_ : List (List Bool) × Bool × Int => Q15.l5b n x y z s t_.1 t_.2.1 t_.2.2) (fun q => 0 ≤ q.2.2 ∧ q.2.2 ≤ n ∧ Pass n x y z A0 q.1 q.2.1 (fun a b => a < s ∨ a = s ∧ b < q.2.2))
  (fun r => ∃ A' m', r = .inl (A', m') ∧ Pass n x y z A0 A' m' (fun a b => a < s + 1)) (fun q => (n - q.2.2).toNat) (fun ⟨A, m, t⟩ ⟨t0, t1, h⟩ => by
   dsimp only at t0 t1 h ⊢
   have hlen := h.mat.len
   have hrow := h.mat.row s s0 s1
   simp only [Q15.l5b]
   by_cases ht : t < n
   ·right
    have hi : In2 n s t := ⟨s0, s1, t0, ht⟩
    rw [if_pos ht, if_pos ⟨s0, by simp; omega⟩, if_pos ⟨t0, by omega⟩, wrap64 (x := t + 1) (by omega) (by omega)]
    by_cases hm : gt (gt A s) t = true
    ·rw [if_pos hm, Q10]
     refine ⟨_, rfl, ⟨by dsimp only; omega, by dsimp only; omega, ⟨h.mat, h.snd, h.up, fun e => ?_, h.yes⟩⟩, by dsimp only; omega⟩
     obtain ⟨rfl, k⟩ := h.no e
     refine ⟨rfl, fun a b hab hv hnm => ?_⟩
     dsimp only at hv
     by_cases hb : a = s ∧ b = t
     ·obtain ⟨rfl, rfl⟩ := hb; exact absurd hm hnm
     ·exact k a b hab (by rcases hv with h | ⟨h1, h2⟩; exact .inl h; exact .inr ⟨h1, by omega⟩) hnm
    ·rw [if_neg hm]
     obtain ⟨d, hd, hiff⟩ := Q319 R h.mat s0 s1 t0 ht
     have hget := Q267 h.mat s0 s1 t0 ht d s0 t0
     rw [if_pos ⟨rfl, rfl⟩] at hget
     have hrow2 := (Q283 h.mat (t := t) s0 s1 d).row s s0 s1
     rw [hd, Option.bind_some]
     rw [show st A s (st (gt A s) t d) = put2 A s t d from rfl]
     have hmore : ∀ {ρ : Type}, (if m = true then some (.inl true) else if (0 : Int) ≤ t ∧ t < ((gt (put2 A s t d) s).length : Int) then some (.inl (gt (gt (put2 A s t d) s) t)) else none : Option (Bool ⊕ ρ)) = some (.inl (m || d)) := fun {ρ} => by
      cases m with
      | true => rfl
      | false => rw [if_neg (by decide), if_pos ⟨t0, by omega⟩, hget]; rfl
     rw [hmore, Q10, Q10]
     refine ⟨_, rfl, ⟨by dsimp only; omega, by dsimp only; omega, ?_⟩, by dsimp only; omega⟩
     dsimp only
     cases d with
     | false =>
      have e : put2 A s t false = A := put2_same h.mat s0 s1 t0 ht (by cases hg : gt (gt A s) t with
       | false => rfl
       | true => exact absurd hg hm)
      rw [e, Bool.or_false]
      refine ⟨h.mat, h.snd, h.up, fun e => ?_, h.yes⟩
      obtain ⟨rfl, k⟩ := h.no e
      refine ⟨rfl, fun a b hab hv hnm => ?_⟩
      by_cases hb : a = s ∧ b = t
      ·obtain ⟨rfl, rfl⟩ := hb
       exact fun hD => by have := hiff.2 hD; cases this
      ·exact k a b hab (by rcases hv with h | ⟨h1, h2⟩; exact .inl h; exact .inr ⟨h1, by omega⟩) hnm
     | true =>
      rw [Bool.or_true]
      have hg : ∀ a b, In2 n a b → (mk2 (put2 A s t true) a b ↔ (a = s ∧ b = t) ∨ mk2 A a b) := fun a b hab => by
       unfold mk2
       rw [Q267 h.mat s0 s1 t0 ht true hab.1 hab.2.2.1]
       by_cases hb : a = s ∧ b = t
       ·rw [if_pos hb]; exact ⟨fun _ => .inl hb, fun _ => rfl⟩
       ·rw [if_neg hb]; exact ⟨.inr, fun q => q.resolve_left hb⟩
      refine ⟨Q283 h.mat s0 s1 true, fun a b hab hm' => ?_, fun a b hab hm' => (hg a b hab).2 (.inr (h.up a b hab hm')), fun e => Bool.noConfusion e, fun _ => ⟨s, t, hi, fun q => hm (h.up s t hi q), (hg s t hi).2 (.inl ⟨rfl, rfl⟩)⟩⟩
      rcases (hg a b hab).1 hm' with ⟨rfl, rfl⟩ | hm'
      ·exact dif_sound R h.snd (hiff.1 rfl)
      ·exact h.snd a b hab hm'
   ·left
    rw [if_neg ht]
    refine ⟨_, rfl, A, m, rfl, ⟨h.mat, h.snd, h.up, fun e => ?_, h.yes⟩⟩
    obtain ⟨e1, k⟩ := h.no e
    exact ⟨e1, fun a b hab hv hnm => k a b hab (by
     by_cases ha : a < s
     ·exact .inl ha
     ·exact .inr ⟨by omega, by have := hab.2.2.2; omega⟩) hnm⟩) (A, m, 0) ⟨Int.le_refl _, by dsimp only; omega, ⟨h.mat, h.snd, h.up, fun e => ⟨(h.no e).1, fun a b hab hv hnm => (h.no e).2 a b hab (by
    rcases hv with hv | ⟨_, hv⟩
    ·exact hv
    ·have := hab.2.2.1
     dsimp only at hv
     omega) hnm⟩, h.yes⟩⟩
 exact ⟨A', m', hr, hq⟩
theorem pass_run (R : RightS n x y z) {A : List (List Bool)} (hA : Mat n A) (hS : Snd n x y z A) :
 ∃ A' m', Q15.l4 n x y z A false 0 = some (.inl (A', m')) ∧ Pass n x y z A A' m' (fun a b => True) := by
 have n0 := R.n0
 have n1 := R.n1
 obtain ⟨r, hr, A', m', rfl, hq⟩ := Q25 (body := fun t_ : List (List Bool) × Bool × Int => Q15.l4b n x y z t_.1 t_.2.1 t_.2.2) (fun q => 0 ≤ q.2.2 ∧ q.2.2 ≤ n ∧ Pass n x y z A q.1 q.2.1 (fun a b => a < q.2.2))
  (fun r => ∃ A' m', r = .inl (A', m') ∧ Pass n x y z A A' m' (fun a b => True)) (fun q => (n - q.2.2).toNat) (fun ⟨B, m, s⟩ ⟨s0, s1, h⟩ => by
   dsimp only at s0 s1 h ⊢
   simp only [Q15.l4b]
   by_cases hs : s < n
   ·right
    obtain ⟨A', m', e, h'⟩ := pass_in R s0 hs h
    rw [if_pos hs, e, Q10, wrap64 (x := s + 1) (by omega) (by omega)]
    exact ⟨_, rfl, ⟨by dsimp only; omega, by dsimp only; omega, h'⟩, by dsimp only; omega⟩
   ·left
    rw [if_neg hs]
    refine ⟨_, rfl, B, m, rfl, ⟨h.mat, h.snd, h.up, fun e => ?_, h.yes⟩⟩
    obtain ⟨e1, k⟩ := h.no e
    exact ⟨e1, fun a b hab _ hnm => k a b hab (by have := hab.2.1; omega) hnm⟩) (A, false, 0) ⟨Int.le_refl _, by dsimp only; omega, ⟨hA, hS, fun _ _ _ h => h, fun _ => ⟨rfl, fun a b hab hv _ => by
    have := hab.1
    dsimp only at hv
    omega⟩, fun e => Bool.noConfusion e⟩⟩
 exact ⟨A', m', hr, hq⟩
def left2 (n : Int) (A : List (List Bool)) : Nat := pairs n.toNat fun i j => !(gt (gt A (i : Int)) (j : Int))
theorem left2_lt {A0 A : List (List Bool)} (hup : ∀ s t, In2 n s t → mk2 A0 s t → mk2 A s t) {s t : Int} (hi : In2 n s t) (h0 : ¬ mk2 A0 s t) (h1 : mk2 A s t) : left2 n A < left2 n A0 := by
 unfold left2
 refine Q271 (fun i j hi hj h => ?_) (a := s.toNat) (b := t.toNat) (by have := hi.1; have := hi.2.1; omega) (by have := hi.2.2.1; have := hi.2.2.2; omega) ?_ ?_
 ·cases hg : gt (gt A0 (i : Int)) (j : Int) with
  | false => rfl
  | true =>
   have := hup i j ⟨by omega, by omega, by omega, by omega⟩ hg
   unfold mk2 at this
   rw [this] at h
   cases h
 ·rw [show ((s.toNat : Nat) : Int) = s from by have := hi.1; omega, show ((t.toNat : Nat) : Int) = t from by have := hi.2.2.1; omega]
  unfold mk2 at h1
  rw [h1]; rfl
 ·rw [show ((s.toNat : Nat) : Int) = s from by have := hi.1; omega, show ((t.toNat : Nat) : Int) = t from by have := hi.2.2.1; omega]
  unfold mk2 at h0
  cases hg : gt (gt A0 s) t with
  | false => rfl
  | true => exact absurd hg h0
theorem marks_run (R : RightS n x y z) {A : List (List Bool)} (hA : Mat n A) (hS : Snd n x y z A) :
 ∃ A', Q15.l1 n x y z A true = some (.inl A') ∧ Mat n A' ∧ ∀ s t, In2 n s t → (mk2 A' s t ↔ ¬ Alike (Hs z) (Es x y) s t) := by
 obtain ⟨r, hr, A', rfl, h1, h2, h3⟩ := Q25 (body := fun t_ : List (List Bool) × Bool => Q15.l1b n x y z t_.1 t_.2) (fun q => Mat n q.1 ∧ Snd n x y z q.1 ∧ (q.2 = false → Shut n x y z q.1))
  (fun r => ∃ A', r = .inl A' ∧ Mat n A' ∧ Snd n x y z A' ∧ Shut n x y z A') (fun q => 2 * left2 n q.1 + if q.2 = true then 1 else 0) (fun ⟨B, m⟩ ⟨h1, h2, h3⟩ => by
   dsimp only at h1 h2 h3 ⊢
   simp only [Q15.l1b]
   cases m with
   | false => left; rw [if_neg (by decide)]; exact ⟨_, rfl, B, rfl, h1, h2, h3 rfl⟩
   | true =>
    right
    obtain ⟨A', m', e, p⟩ := pass_run R h1 h2
    rw [if_pos rfl, e, Q10]
    refine ⟨_, rfl, ⟨p.mat, p.snd, fun e => ?_⟩, ?_⟩
    ·dsimp only at e ⊢
     obtain ⟨rfl, k⟩ := p.no e
     exact fun s t hi hm => k s t hi trivial hm
    ·dsimp only
     cases m' with
     | false =>
      obtain ⟨rfl, _⟩ := p.no rfl
      simp
     | true =>
      obtain ⟨s, t, hi, q0, q1⟩ := p.yes rfl
      have := left2_lt p.up hi q0 q1
      simp
      omega) (A, true) ⟨hA, hS, fun e => Bool.noConfusion e⟩
 exact ⟨A', hr, h1, fun s t hi => ⟨h2 s t hi, fun h => Classical.byContradiction fun q => h (Q342 R h3 hi q)⟩⟩
end
end Go.Bw
namespace Go.Bw
open Go Go.RowKit

theorem Q269 (x : Bs) : bseq x x = true := Q65.2 rfl
theorem Q152 {τ ρ : Type} {body : Int → Option (Int ⊕ (Unit ⊕ ρ))} {N : Int} (hN : N ≤ 9223372036854775807) (h1 : ∀ i, 0 ≤ i → i < N → body i = some (.inl (IntKind.i64.wrap (i + 1)))) (h2 : ∀ i, ¬ i < N → body i = some (.inr (.inl ()))) : iter body 0 = some (.inl ()) := by
 obtain ⟨r, hr, rfl⟩ := up_loop (body := body) (N := N) (Q := fun r => r = .inl ()) hN 0 (by decide) fun i hi => by
  by_cases hlt : i < N
  ·exact .inr ⟨hlt, h1 i hi hlt⟩
  ·exact .inl ⟨_, h2 i hlt, rfl⟩
 exact hr
theorem same_self (n : Int) (x : List Bs) (y : List Q0) (z : List Q1) (hx : (x.length : Int) ≤ 9223372036854775807) (hy : (y.length : Int) ≤ 9223372036854775807) (hz : (z.length : Int) ≤ 9223372036854775807) (hs : ∀ p ∈ z, (p.States.length : Int) ≤ 9223372036854775807) :
 Q17.f n x y z n x y z = some true := by
 have e0 : Q17.l0 x x 0 = some (.inl ()) := Q152 (τ := Unit) (N := x.length) hx (fun i h0 h1 => by simp only [Q17.l0b]; rw [if_pos h1, if_pos ⟨h0, h1⟩, if_pos ⟨h0, h1⟩, Q269]; rfl) (fun i h => by simp only [Q17.l0b]; rw [if_neg h]; rfl)
 have e1 : Q17.l1 y y 0 = some (.inl ()) := Q152 (τ := Unit) (N := y.length) hy (fun i h0 h1 => by simp only [Q17.l1b]; rw [if_pos h1, if_pos ⟨h0, h1⟩, if_pos ⟨h0, h1⟩]; simp [nx]) (fun i h => by simp only [Q17.l1b]; rw [if_neg h]; rfl)
 have e2 : Q17.l2 z z 0 = some (.inl ()) := Q152 (τ := Unit) (N := z.length) hz (fun i h0 h1 => by
  have e3 : Q17.l3 z z i 0 = some (.inl ()) := Q152 (τ := Unit) (N := (gt z i).States.length) (hs _ (Q32 h0 h1)) (fun j j0 j1 => by simp only [Q17.l3b]; rw [if_pos j1, if_pos ⟨j0, j1⟩, if_pos ⟨j0, j1⟩, if_pos trivial]; rfl) (fun j h => by simp only [Q17.l3b]; rw [if_neg h]; rfl)
  simp only [Q17.l2b]
  rw [if_pos h1, if_pos ⟨h0, h1⟩, if_pos ⟨h0, h1⟩, Q269, e3]
  simp [jn, nx]) (fun i h => by simp only [Q17.l2b]; rw [if_neg h]; rfl)
 unfold Q17.f
 simp [e0, e1, e2, jn]
end Go.Bw
namespace Go.Bw
open Go Go.RowKit

theorem Q237 {ρ : Type} {N : Int} (p : Int → Prop) {body : Bool × Int → Option ((Bool × Int) ⊕ (Bool ⊕ ρ))}
 (go : ∀ f i, 0 ≤ i → i < N → ∃ f', body (f, i) = some (.inl (f', i + 1)) ∧ (f' = true ↔ f = true ∨ p i)) (fin : ∀ f i, ¬ i < N → body (f, i) = some (.inr (.inl f))) :
 ∃ f, iter body (false, 0) = some (.inl f) ∧ (f = true ↔ ∃ i, 0 ≤ i ∧ i < N ∧ p i) := by
 obtain ⟨r, hr, f, rfl, h⟩ := Q25 (body := body) (fun q => 0 ≤ q.2 ∧ (q.1 = true ↔ ∃ i, 0 ≤ i ∧ i < q.2 ∧ i < N ∧ p i)) (fun r => ∃ f, r = .inl f ∧ (f = true ↔ ∃ i, 0 ≤ i ∧ i < N ∧ p i)) (fun q => (N - q.2).toNat) (fun ⟨f, i⟩ ⟨i0, hf⟩ => by
  dsimp only at i0 hf
  by_cases hi : i < N
  ·right
   obtain ⟨f', h1, h2⟩ := go f i i0 hi
   refine ⟨_, h1, ⟨by dsimp only; omega, ?_⟩, by dsimp only; omega⟩
   dsimp only
   rw [h2, hf]
   constructor
   ·rintro (⟨j, a, b, c⟩ | h)
    ·exact ⟨j, a, by omega, c⟩
    ·exact ⟨i, i0, by omega, hi, h⟩
   ·rintro ⟨j, a, b, c, d⟩
    by_cases e : j = i
    ·subst e; exact .inr d
    ·exact .inl ⟨j, a, by omega, c, d⟩
  ·left
   refine ⟨_, fin f i hi, f, rfl, ?_⟩
   rw [hf]
   exact ⟨fun ⟨j, a, b, c⟩ => ⟨j, a, c⟩, fun ⟨j, a, c⟩ => ⟨j, a, by omega, c⟩⟩) (false, 0) ⟨Int.le_refl _, ⟨fun h => Bool.noConfusion h, fun ⟨j, a, b, _⟩ => by dsimp only at b; omega⟩⟩
 exact ⟨f, hr, h⟩
theorem Q175 {β ρ : Type} {N B M : Nat} (f : Int → List β) {body : List β × Int → Option ((List β × Int) ⊕ (List β ⊕ ρ))} (hB : ∀ k : Int, 0 ≤ k → k < (N : Int) → (f k).length ≤ B)
 (go : ∀ acc i, 0 ≤ i → i < (N : Int) → acc.length ≤ M → body (acc, i) = some (.inl (acc ++ f i, i + 1)))
 (fin : ∀ acc i, ¬ i < (N : Int) → body (acc, i) = some (.inr (.inl acc))) (acc : List β) (ha : acc.length + N * B ≤ M) :
 iter body (acc, 0) = some (.inl (acc ++ (List.range N).flatMap fun k : Nat => f (k : Int))) := by
 have key : ∀ (q k : Nat) (acc : List β), k + q = N → acc.length + q * B ≤ M → iter body (acc, (k : Int)) = some (.inl (acc ++ (List.range' k q).flatMap fun k : Nat => f (k : Int))) := fun q => by
  induction q with
  | zero =>
   intro k acc hk _
   rw [it_end (fin acc k (by omega))]
   simp
  | succ q ih =>
   intro k acc hk hm
   have hl := hB k (by omega) (by omega)
   rw [Nat.add_mul, Nat.one_mul] at hm
   rw [it_go (go acc k (by omega) (by omega) (by omega)), show ((k : Int) + 1) = ((k + 1 : Nat) : Int) from by omega, ih (k + 1) _ (by omega) (by rw [List.length_append]; omega), List.range'_succ, List.flatMap_cons, List.append_assoc]
 have := key N 0 acc (by omega) ha
 rw [List.range_eq_range']
 exact this
open Classical in
noncomputable def pick {β : Type} (Q : Int → Prop) (g : Int → β) (k : Int) : List β := if Q k then [g k] else []
theorem Q210 {β : Type} (Q : Int → Prop) (g : Int → β) (k : Int) : (pick Q g k).length ≤ 1 := by unfold pick; split <;> simp
theorem Q141 {β : Type} {Q : Int → Prop} {g : Int → β} {k : Int} {e : β} : e ∈ pick Q g k ↔ Q k ∧ e = g k := by
 unfold pick
 split
 ·rename_i h; simp [h]
 ·rename_i h; simp [h]
theorem pick_tt {β : Type} {Q : Int → Prop} {g : Int → β} {k : Int} (h : Q k) : pick Q g k = [g k] := by unfold pick; rw [if_pos h]
theorem pick_ff {β : Type} {Q : Int → Prop} {g : Int → β} {k : Int} (h : ¬ Q k) : pick Q g k = [] := by unfold pick; rw [if_neg h]
theorem pw_ext {α : Type} {lt : α → α → Prop} (irr : ∀ a, ¬ lt a a) (asy : ∀ a b, lt a b → ¬ lt b a) : ∀ {l1 l2 : List α}, l1.Pairwise lt → l2.Pairwise lt → (∀ e, e ∈ l1 ↔ e ∈ l2) → l1 = l2
 | [], [], _, _, _ => rfl
 | [], b :: l2, _, _, h => by have := (h b).2 (.head _); cases this
 | a :: l1, [], _, _, h => by have := (h a).1 (.head _); cases this
 | a :: l1, b :: l2, h1, h2, h => by
  rw [List.pairwise_cons] at h1 h2
  have e : a = b := by
   rcases List.mem_cons.1 ((h a).1 (.head _)) with e | ha
   ·exact e
   ·rcases List.mem_cons.1 ((h b).2 (.head _)) with e | hb
    ·exact e.symm
    ·exact absurd (h1.1 b hb) (asy _ _ (h2.1 a ha))
  subst e
  refine congrArg _ (pw_ext irr asy h1.2 h2.2 fun e => ⟨fun he => ?_, fun he => ?_⟩)
  ·rcases List.mem_cons.1 ((h e).1 (.tail _ he)) with rfl | q
   ·exact absurd (h1.1 _ he) (irr _)
   ·exact q
  ·rcases List.mem_cons.1 ((h e).2 (.tail _ he)) with rfl | q
   ·exact absurd (h2.1 _ he) (irr _)
   ·exact q
section
variable {n : Int} {x : List Bs} {y : List Q0} {z : List Q1}
theorem mat0 {n : Int} (h0 : 0 ≤ n) (h1 : n ≤ 24) : ∃ A, Q15.l0 n (List.replicate n.toNat ([] : List Bool)) 0 = some (.inl A) ∧ Mat n A ∧ ∀ s t, In2 n s t → ¬ mk2 A s t := by
 obtain ⟨r, hr, A, rfl, hl, h⟩ := Q25 (body := fun t_ : List (List Bool) × Int => Q15.l0b n t_.1 t_.2) (fun q => 0 ≤ q.2 ∧ q.2 ≤ n ∧ (q.1.length : Int) = n ∧ ∀ s : Int, 0 ≤ s → s < q.2 → gt q.1 s = List.replicate n.toNat false)
  (fun r => ∃ A, r = .inl A ∧ (A.length : Int) = n ∧ ∀ s : Int, 0 ≤ s → s < n → gt A s = List.replicate n.toNat false) (fun q => (n - q.2).toNat) (fun ⟨A, i⟩ ⟨i0, i1, hl, h⟩ => by
   dsimp only at i0 i1 hl h ⊢
   simp only [Q15.l0b]
   by_cases hi : i < n
   ·right
    rw [if_pos hi, if_pos ⟨h0, by omega⟩, if_pos ⟨i0, by simp; omega⟩, wrap64 (x := i + 1) (by omega) (by omega)]
    refine ⟨_, rfl, ⟨by dsimp only; omega, by dsimp only; omega, by dsimp only; rw [Q93]; exact hl, fun s s0 s1 => ?_⟩, by dsimp only; omega⟩
    dsimp only at s1 ⊢
    rw [Q90 i0 (by omega) s0]
    split
    ·rfl
    ·exact h s s0 (by omega)
   ·left
    rw [if_neg hi]
    exact ⟨_, rfl, A, rfl, hl, fun s s0 s1 => h s s0 (by omega)⟩) (List.replicate n.toNat ([] : List Bool), 0) ⟨Int.le_refl _, h0, by simp; omega, fun s s0 s1 => by dsimp only at s1; omega⟩
 refine ⟨A, hr, ⟨hl, fun s s0 s1 => by rw [h s s0 s1]; simp; omega⟩, fun s t hi hm => ?_⟩
 unfold mk2 at hm
 rw [h s hi.1 hi.2.1] at hm
 have := Q32 (xs := List.replicate n.toNat false) hi.2.2.1 (by have := hi.2.2.2; simp; omega)
 rw [hm] at this
 have := List.eq_of_mem_replicate this
 cases this
theorem like_in {A : List (List Bool)} (hA : Mat n A) (hn : n ≤ 24) {s : Int} (s0 : 0 ≤ s) (s1 : s < n) {o : List Int} (ho : (o.length : Int) = n) :
 ∃ v, Q15.l3 n A s (st o s (-1)) 0 = some (.inl (st o s v)) ∧ ((v = -1 ∧ ∀ t : Int, 0 ≤ t → t < s → mk2 A s t) ∨ ∃ t : Int, 0 ≤ t ∧ t < s ∧ ¬ mk2 A s t ∧ v = gt o t) := by
 have hl := hA.len
 have hr := hA.row s s0 s1
 obtain ⟨r, hr', v, rfl, h⟩ := Q25 (body := fun t_ : List Int × Int => Q15.l3b n A s t_.1 t_.2) (fun q => 0 ≤ q.2 ∧ q.2 ≤ s ∧ ∃ v, q.1 = st o s v ∧ ((v = -1 ∧ ∀ t : Int, 0 ≤ t → t < q.2 → mk2 A s t) ∨ ∃ t : Int, 0 ≤ t ∧ t < q.2 ∧ ¬ mk2 A s t ∧ v = gt o t))
  (fun r => ∃ v, r = .inl (st o s v) ∧ ((v = -1 ∧ ∀ t : Int, 0 ≤ t → t < s → mk2 A s t) ∨ ∃ t : Int, 0 ≤ t ∧ t < s ∧ ¬ mk2 A s t ∧ v = gt o t)) (fun q => (s - q.2).toNat) (fun ⟨p, i⟩ ⟨i0, i1, v, hp, h⟩ => by
   dsimp only at i0 i1 hp h ⊢
   subst hp
   simp only [Q15.l3b]
   by_cases hi : i < s
   ·right
    rw [if_pos hi, if_pos ⟨s0, by simp; omega⟩, if_pos ⟨i0, by omega⟩, wrap64 (x := i + 1) (by omega) (by omega)]
    by_cases hm : gt (gt A s) i = true
    ·rw [if_pos hm, Q10]
     refine ⟨_, rfl, ⟨by dsimp only; omega, by dsimp only; omega, v, rfl, ?_⟩, by dsimp only; omega⟩
     rcases h with ⟨e, h⟩ | ⟨t, a, b, c⟩
     ·refine .inl ⟨e, fun t t0 t1 => ?_⟩
      dsimp only at t1
      by_cases e : t = i
      ·subst e; exact hm
      ·exact h t t0 (by omega)
     ·exact .inr ⟨t, a, by dsimp only; omega, c⟩
    ·rw [if_neg hm, if_pos ⟨i0, by simp; omega⟩, Q10, Q90 s0 (by omega) i0, if_neg (by omega), st_st]
     exact ⟨_, rfl, ⟨by dsimp only; omega, by dsimp only; omega, _, rfl, .inr ⟨i, i0, by dsimp only; omega, hm, rfl⟩⟩, by dsimp only; omega⟩
   ·left
    rw [if_neg hi]
    have e : i = s := by omega
    subst e
    exact ⟨_, rfl, v, rfl, h⟩) (st o s (-1), 0) ⟨Int.le_refl _, s0, -1, rfl, .inl ⟨rfl, fun t t0 t1 => by dsimp only at t1; omega⟩⟩
 exact ⟨v, hr', h⟩
structure Upto (n : Int) (S : Int → Int → Prop) (o : List Int) (k s : Int) : Prop where
 len : (o.length : Int) = n
 k0 : 0 ≤ k
 ks : k ≤ s
 rng : ∀ i : Int, 0 ≤ i → i < s → 0 ≤ gt o i ∧ gt o i < k
 all : ∀ v : Int, 0 ≤ v → v < k → ∃ j : Int, 0 ≤ j ∧ j < s ∧ gt o j = v
 can : ∀ i : Int, 0 ≤ i → i < s → ∀ v : Int, 0 ≤ v → v < gt o i → ∃ j : Int, 0 ≤ j ∧ j < i ∧ gt o j = v
 iff : ∀ i j : Int, 0 ≤ i → i < s → 0 ≤ j → j < s → (gt o i = gt o j ↔ S i j)
theorem Q303 {A : List (List Bool)} (hA : Mat n A) (hn0 : 0 ≤ n) (hn : n ≤ 24) {S : Int → Int → Prop} (refl : ∀ s, S s s) (symm : ∀ s t, S s t → S t s) (trans : ∀ s t u, S s t → S t u → S s u)
 (hS : ∀ s t, In2 n s t → (mk2 A s t ↔ ¬ S s t)) : ∃ o k, Q15.l2 n A (List.replicate n.toNat (0 : Int)) 0 0 = some (.inl o) ∧ Upto n S o k n := by
 obtain ⟨r, hr, o, k, rfl, h⟩ := Q25 (body := fun t_ : List Int × Int × Int => Q15.l2b n A t_.1 t_.2.1 t_.2.2) (fun q => 0 ≤ q.2.2 ∧ q.2.2 ≤ n ∧ Upto n S q.1 q.2.1 q.2.2)
  (fun r => ∃ o k, r = .inl o ∧ Upto n S o k n) (fun q => (n - q.2.2).toNat) (fun ⟨o, k, s⟩ ⟨s0, s1, h⟩ => by
   dsimp only at s0 s1 h ⊢
   have hlen := h.len
   have hk0 := h.k0
   have hks := h.ks
   simp only [Q15.l2b]
   by_cases hs : s < n
   ·right
    obtain ⟨v, hv, hc⟩ := like_in hA hn s0 hs hlen
    have gs : ∀ w, gt (st o s w) s = w := fun w => by rw [Q90 s0 (by omega) s0, if_pos rfl]
    have go : ∀ w (i : Int), 0 ≤ i → i < s → gt (st o s w) i = gt o i := fun w i i0 i1 => by rw [Q90 s0 (by omega) i0, if_neg (by omega)]
    rw [if_pos hs, if_pos ⟨s0, by simp; omega⟩, hv, Q10, gs]
    rcases hc with ⟨rfl, hc⟩ | ⟨t, t0, t1, hm, rfl⟩
    ·rw [if_pos (by decide), st_st, Q10, wrap64 (x := k + 1) (by omega) (by omega), wrap64 (x := s + 1) (by omega) (by omega)]
     have hne : ∀ i : Int, 0 ≤ i → i < s → ¬ S s i := fun i i0 i1 => (hS s i ⟨s0, hs, i0, by omega⟩).1 (hc i i0 i1)
     refine ⟨_, rfl, ⟨by dsimp only; omega, by dsimp only; omega, ⟨by rw [Q93]; exact hlen, by dsimp only; omega, by dsimp only; omega, fun i i0 i1 => ?_, fun v v0 v1 => ?_, fun i i0 i1 v v0 v1 => ?_, fun i j i0 i1 j0 j1 => ?_⟩⟩, by dsimp only; omega⟩
     ·dsimp only at i1 ⊢
      by_cases e : i = s
      ·subst e; rw [gs]; omega
      ·rw [go _ i i0 (by omega)]; have := h.rng i i0 (by omega); omega
     ·dsimp only at v1 ⊢
      by_cases e : v = k
      ·exact ⟨s, s0, by omega, by rw [gs, e]⟩
      ·obtain ⟨j, a, b, c⟩ := h.all v v0 (by omega)
       exact ⟨j, a, by omega, by rw [go _ j a b]; exact c⟩
     ·dsimp only at i1 v1 ⊢
      by_cases e : i = s
      ·subst e
       rw [gs] at v1
       obtain ⟨j, a, b, c⟩ := h.all v v0 v1
       exact ⟨j, a, b, by rw [go _ j a b]; exact c⟩
      ·rw [go _ i i0 (by omega)] at v1
       obtain ⟨j, a, b, c⟩ := h.can i i0 (by omega) v v0 v1
       exact ⟨j, a, b, by rw [go _ j a (by omega)]; exact c⟩
     ·dsimp only at i1 j1 ⊢
      by_cases e : i = s
      ·by_cases e' : j = s
       ·rw [e, e']; exact ⟨fun _ => refl s, fun _ => rfl⟩
       ·rw [e, gs, go _ j j0 (by omega)]
        have := h.rng j j0 (by omega)
        exact ⟨fun q => by omega, fun q => absurd q (hne j j0 (by omega))⟩
      ·by_cases e' : j = s
       ·rw [e', gs, go _ i i0 (by omega)]
        have := h.rng i i0 (by omega)
        exact ⟨fun q => by omega, fun q => absurd (symm _ _ q) (hne i i0 (by omega))⟩
       ·rw [go _ i i0 (by omega), go _ j j0 (by omega)]
        exact h.iff i j i0 (by omega) j0 (by omega)
    ·have hr := h.rng t t0 t1
     have hst : S s t := Classical.byContradiction fun q => hm ((hS s t ⟨s0, hs, t0, by omega⟩).2 q)
     rw [if_neg (by omega), Q10, wrap64 (x := s + 1) (by omega) (by omega)]
     refine ⟨_, rfl, ⟨by dsimp only; omega, by dsimp only; omega, ⟨by rw [Q93]; exact hlen, hk0, by dsimp only; omega, fun i i0 i1 => ?_, fun v v0 v1 => ?_, fun i i0 i1 v v0 v1 => ?_, fun i j i0 i1 j0 j1 => ?_⟩⟩, by dsimp only; omega⟩
     ·dsimp only at i1 ⊢
      by_cases e : i = s
      ·subst e; rw [gs]; omega
      ·rw [go _ i i0 (by omega)]; have := h.rng i i0 (by omega); omega
     ·dsimp only at v1 ⊢
      obtain ⟨j, a, b, c⟩ := h.all v v0 (by omega)
      exact ⟨j, a, by omega, by rw [go _ j a b]; exact c⟩
     ·dsimp only at i1 v1 ⊢
      by_cases e : i = s
      ·subst e
       rw [gs] at v1
       obtain ⟨j, a, b, c⟩ := h.can t t0 t1 v v0 v1
       exact ⟨j, a, by omega, by rw [go _ j a (by omega)]; exact c⟩
      ·rw [go _ i i0 (by omega)] at v1
       obtain ⟨j, a, b, c⟩ := h.can i i0 (by omega) v v0 v1
       exact ⟨j, a, b, by rw [go _ j a (by omega)]; exact c⟩
     ·dsimp only at i1 j1 ⊢
      by_cases e : i = s
      ·by_cases e' : j = s
       ·rw [e, e']; exact ⟨fun _ => refl s, fun _ => rfl⟩
       ·rw [e, gs, go _ j j0 (by omega), h.iff t j t0 t1 j0 (by omega)]
        exact ⟨fun q => trans _ _ _ hst q, fun q => trans _ _ _ (symm _ _ hst) q⟩
      ·by_cases e' : j = s
       ·rw [e', gs, go _ i i0 (by omega), h.iff i t i0 (by omega) t0 t1]
        exact ⟨fun q => trans _ _ _ q (symm _ _ hst), fun q => trans _ _ _ q hst⟩
       ·rw [go _ i i0 (by omega), go _ j j0 (by omega)]
        exact h.iff i j i0 (by omega) j0 (by omega)
   ·left
    rw [if_neg hs]
    have e : s = n := by omega
    subst e
    exact ⟨_, rfl, o, k, rfl, h⟩) (List.replicate n.toNat (0 : Int), 0, 0) ⟨Int.le_refl _, hn0, ⟨by simp; omega, Int.le_refl _, Int.le_refl _, fun i i0 i1 => by dsimp only at i1; omega, fun v v0 v1 => by dsimp only at v1; omega, fun i i0 i1 => by dsimp only at i1; omega, fun i j i0 i1 => by dsimp only at i1; omega⟩⟩
 exact ⟨o, k, hr, h⟩
theorem Q337 (R : RightS n x y z) (hr : Q27.f n x y z = some true) {c : List Int} (C : Cls n (Hs z) (Es x y) c) : Q15.f n x y z = some c := by
 have n0 := R.n0
 have n1 := R.n1
 obtain ⟨A0, hA0, hM0, hf0⟩ := mat0 (n := n) (by omega) n1
 obtain ⟨A, hA, hM, hiff⟩ := marks_run R hM0 (fun s t hi hm => absurd hm (hf0 s t hi))
 obtain ⟨o, k, ho, hu⟩ := Q303 hM (by omega) n1 (S := Alike (Hs z) (Es x y)) Alike.refl (fun _ _ h => h.symm) (fun _ _ _ h h' => h.trans h') hiff
 have hc : o = c := Cls.uniq ⟨hu.len, fun i i0 i1 => by have := hu.len; exact ⟨(hu.rng i i0 (by omega)).1, hu.can i i0 (by omega)⟩, fun s t s0 s1 t0 t1 => hu.iff s t s0 s1 t0 t1⟩ C
 unfold Q15.f
 rw [hr, Option.bind_some, if_pos rfl, if_pos ⟨by omega, by omega⟩, hA0, Q10, hA, Q10, if_pos ⟨by omega, by omega⟩, ho, Q10, hc]
theorem top_run {c : List Int} {M : Int} (hc : (c.length : Int) ≤ 24) (hM : M ∈ c) (hle : ∀ v ∈ c, 0 ≤ v ∧ v ≤ M) (hM24 : M ≤ 24) : Q9.l0 c 0 0 = some (.inl (M + 1)) := by
 obtain ⟨r, hr, rfl⟩ := Q25 (body := fun t_ : Int × Int => Q9.l0b c t_.1 t_.2) (fun q => 0 ≤ q.2 ∧ q.2 ≤ (c.length : Int) ∧ 0 ≤ q.1 ∧ q.1 ≤ M + 1 ∧ ∀ j : Int, 0 ≤ j → j < q.2 → gt c j < q.1)
  (fun r => r = .inl (M + 1)) (fun q => ((c.length : Int) - q.2).toNat) (fun ⟨k, i⟩ ⟨i0, i1, k0, k1, h⟩ => by
   dsimp only at i0 i1 k0 k1 h ⊢
   simp only [Q9.l0b]
   by_cases hi : i < (c.length : Int)
   ·right
    have hm := hle _ (Q32 i0 hi)
    rw [if_pos hi, if_pos ⟨i0, hi⟩, wrap64 (x := i + 1) (by omega) (by omega)]
    by_cases hk : k ≤ gt c i
    ·rw [if_pos hk, Q10, wrap64 (x := gt c i + 1) (by omega) (by omega)]
     refine ⟨_, rfl, ⟨by dsimp only; omega, by dsimp only; omega, by dsimp only; omega, by dsimp only; omega, fun j j0 j1 => ?_⟩, by dsimp only; omega⟩
     dsimp only at j1 ⊢
     by_cases e : j = i
     ·subst e; omega
     ·have := h j j0 (by omega); omega
    ·rw [if_neg hk, Q10]
     refine ⟨_, rfl, ⟨by dsimp only; omega, by dsimp only; omega, by dsimp only; omega, by dsimp only; omega, fun j j0 j1 => ?_⟩, by dsimp only; omega⟩
     dsimp only at j1 ⊢
     by_cases e : j = i
     ·subst e; omega
     ·have := h j j0 (by omega); omega
   ·left
    rw [if_neg hi]
    obtain ⟨q, hq, e⟩ := List.getElem_of_mem hM
    have hg : gt c (q : Int) = M := (Q88 (List.getElem?_eq_getElem hq)).trans e
    have := h q (by omega) (by omega)
    exact ⟨_, rfl, by congr 1; omega⟩) (0, 0) ⟨Int.le_refl _, by dsimp only; omega, Int.le_refl _, by dsimp only; have := (hle M hM).1; omega, fun j j0 j1 => by dsimp only at j1; omega⟩
 exact hr
section
variable {c : List Int} {M : Int} {y' : List Q0}
def QE (c : List Int) (y : List Q0) (a b : Int) (t : Int) : Prop := ∃ e ∈ y, e.Action = b ∧ gt c e.From = a ∧ gt c e.To = t
theorem rq7_run (q : QI n x y z c M y') (a b t : Int) : ∃ f, Q9.l7 y c a b t false 0 = some (.inl f) ∧ (f = true ↔ QE c y a b t) := by
 have hl := q.C.len
 have ny := q.R.ny
 obtain ⟨f, hf, hiff⟩ := Q237 (N := y.length) (fun i => (gt y i).Action = b ∧ gt c (gt y i).From = a ∧ gt c (gt y i).To = t) (body := fun t_ : Bool × Int => Q9.l7b y c a b t t_.1 t_.2) (fun f i i0 i1 => by
  have hE := q.R.ed _ (Q32 i0 i1)
  unfold EdgeIn at hE
  simp only [Q9.l7b]
  rw [if_pos i1, if_pos ⟨i0, i1⟩, wrap64 (x := i + 1) (by omega) (by omega)]
  cases f with
  | true => rw [if_pos rfl, Q10]; exact ⟨true, rfl, by simp⟩
  | false =>
   rw [if_neg (by decide)]
   by_cases h1 : (gt y i).Action = b
   ·rw [if_pos h1, if_pos ⟨by omega, by omega⟩, Q10]
    by_cases h2 : gt c (gt y i).From = a
    ·rw [decide_eq_true h2]
     dsimp only
     rw [if_pos rfl, if_pos ⟨by omega, by omega⟩, Q10, Q10]
     exact ⟨_, rfl, by simp [h1, h2]⟩
    ·rw [decide_eq_false h2]
     dsimp only
     rw [if_neg (by decide), Q10, Q10]
     exact ⟨_, rfl, by simp [h2]⟩
   ·rw [if_neg h1, Q10]
    dsimp only
    rw [if_neg (by decide), Q10, Q10]
    exact ⟨_, rfl, by simp [h1]⟩) (fun f i hi => by simp only [Q9.l7b]; rw [if_neg hi]; rfl)
 refine ⟨f, hf, hiff.trans ⟨fun ⟨i, i0, i1, h⟩ => ⟨_, Q32 i0 i1, h⟩, fun ⟨e, he, h⟩ => ?_⟩⟩
 obtain ⟨k, hk, rfl⟩ := List.getElem_of_mem he
 have hg : gt y (k : Int) = y[k] := Q88 (List.getElem?_eq_getElem hk)
 exact ⟨k, by omega, by omega, by rw [hg]; exact h⟩
noncomputable def q6 (c : List Int) (y : List Q0) (K : Nat) (a b : Int) : List Q0 := (List.range K).flatMap fun t : Nat => pick (QE c y a b) (fun t => (⟨a, b, t⟩ : Q0)) (t : Int)
noncomputable def q5 (c : List Int) (y : List Q0) (K m : Nat) (a : Int) : List Q0 := (List.range m).flatMap fun b : Nat => q6 c y K a (b : Int)
noncomputable def q1 (c : List Int) (y : List Q0) (K m : Nat) : List Q0 := (List.range K).flatMap fun a : Nat => q5 c y K m (a : Int)
theorem Q192 {α β : Type} {f : α → List β} {B : Nat} : ∀ {L : List α}, (∀ a ∈ L, (f a).length ≤ B) → (L.flatMap f).length ≤ L.length * B
 | [], _ => by simp
 | a :: L, h => by
  have h1 := h a (.head _)
  have h2 := Q192 (L := L) fun b hb => h b (.tail _ hb)
  rw [List.flatMap_cons, List.length_append, List.length_cons, Nat.add_mul]
  omega
theorem q6_len {K : Nat} (hK : K ≤ 24) (a b : Int) : (q6 c y K a b).length ≤ 24 := by
 have := Q192 (f := fun t : Nat => pick (QE c y a b) (fun t => (⟨a, b, t⟩ : Q0)) (t : Int)) (B := 1) (L := List.range K) fun k _ => Q210 _ _ _
 unfold q6
 simp at this ⊢
 omega
theorem q5_len {K m : Nat} (hK : K ≤ 24) (hm : m ≤ 8) (a : Int) : (q5 c y K m a).length ≤ 192 := by
 have := Q192 (f := fun b : Nat => q6 c y K a (b : Int)) (B := 24) (L := List.range m) fun k _ => q6_len hK _ _
 unfold q5
 simp at this ⊢
 omega
theorem rq6_run (q : QI n x y z c M y') (a b : Int) (acc : List Q0) (ha : acc.length ≤ 5000) : Q9.l6 y c (M + 1) a b acc 0 = some (.inl (acc ++ q6 c y (M + 1).toNat a b)) := by
 have hm := q.m
 have n1 := q.R.n1
 exact Q175 (N := (M + 1).toNat) (B := 1) (M := 6000) (pick (QE c y a b) fun t => (⟨a, b, t⟩ : Q0)) (body := fun t_ : List Q0 × Int => Q9.l6b y c (M + 1) a b t_.1 t_.2) (fun k _ _ => Q210 _ _ _) (fun acc i i0 i1 hacc => by
  obtain ⟨f, hf, hiff⟩ := rq7_run q a b i
  simp only [Q9.l6b]
  rw [if_pos (by omega), hf, Q10, wrap64 (x := i + 1) (by omega) (by omega)]
  cases f with
  | true => rw [if_pos rfl, if_pos (by simp; omega), Q10, pick_tt (hiff.1 rfl)]; rfl
  | false => rw [if_neg (by decide), Q10, pick_ff (fun h => by have := hiff.2 h; cases this), List.append_nil]; rfl) (fun acc i hi => by simp only [Q9.l6b]; rw [if_neg (by omega)]; rfl) acc (by omega)
theorem rq5_run (q : QI n x y z c M y') (a : Int) (acc : List Q0) (ha : acc.length ≤ 4700) : Q9.l5 x y c (M + 1) a acc 0 = some (.inl (acc ++ q5 c y (M + 1).toNat x.length a)) := by
 have hm := q.m
 have n1 := q.R.n1
 have nx := q.R.nx
 exact Q175 (N := x.length) (B := 24) (M := 5000) (fun b => q6 c y (M + 1).toNat a b) (body := fun t_ : List Q0 × Int => Q9.l5b x y c (M + 1) a t_.1 t_.2) (fun k _ _ => q6_len (by omega) _ _) (fun acc i i0 i1 hacc => by
  simp only [Q9.l5b]
  rw [if_pos i1, rq6_run q a i acc hacc, Q10, wrap64 (x := i + 1) (by omega) (by omega)]
  rfl) (fun acc i hi => by simp only [Q9.l5b]; rw [if_neg hi]; rfl) acc (by omega)
theorem rq1_run (q : QI n x y z c M y') : Q9.l1 x y c (M + 1) [] 0 = some (.inl (q1 c y (M + 1).toNat x.length)) := by
 have hm := q.m
 have n1 := q.R.n1
 have nx := q.R.nx
 have := Q175 (N := (M + 1).toNat) (B := 192) (M := 4700) (fun a => q5 c y (M + 1).toNat x.length a) (body := fun t_ : List Q0 × Int => Q9.l1b x y c (M + 1) t_.1 t_.2) (fun k _ _ => q5_len (by omega) nx _) (fun acc i i0 i1 hacc => by
  simp only [Q9.l1b]
  rw [if_pos (by omega), rq5_run q i acc hacc, Q10, wrap64 (x := i + 1) (by omega) (by omega)]
  rfl) (fun acc i hi => by simp only [Q9.l1b]; rw [if_neg (by omega)]; rfl) [] (by simp; omega)
 exact this
theorem mem_q1 {K m : Nat} {e : Q0} : e ∈ q1 c y K m ↔ (0 ≤ e.From ∧ e.From < (K : Int)) ∧ (0 ≤ e.Action ∧ e.Action < (m : Int)) ∧ (0 ≤ e.To ∧ e.To < (K : Int)) ∧ QE c y e.From e.Action e.To := by
 unfold q1 q5 q6
 simp only [List.mem_flatMap, List.mem_range, Q141]
 constructor
 ·rintro ⟨a, ha, b, hb, t, ht, h, rfl⟩
  exact ⟨⟨by dsimp only; omega, by dsimp only; omega⟩, ⟨by dsimp only; omega, by dsimp only; omega⟩, ⟨by dsimp only; omega, by dsimp only; omega⟩, h⟩
 ·rintro ⟨⟨a0, a1⟩, ⟨b0, b1⟩, ⟨t0, t1⟩, h⟩
  refine ⟨e.From.toNat, by omega, e.Action.toNat, by omega, e.To.toNat, by omega, ?_⟩
  rw [show ((e.From.toNat : Nat) : Int) = e.From from by omega, show ((e.Action.toNat : Nat) : Int) = e.Action from by omega, show ((e.To.toNat : Nat) : Int) = e.To from by omega]
  exact ⟨h, rfl⟩
theorem pw_q1 {K m : Nat} : (q1 c y K m).Pairwise edgeLt := by
 have h6 : ∀ a b, (q6 c y K a b).Pairwise edgeLt := fun a b => by
  unfold q6
  rw [List.pairwise_flatMap]
  refine ⟨fun t _ => ?_, (List.pairwise_lt_range (n := K)).imp fun {s t} h u hu v hv => ?_⟩
  ·unfold pick; split <;> simp
  ·rw [Q141] at hu hv
   obtain ⟨_, rfl⟩ := hu
   obtain ⟨_, rfl⟩ := hv
   unfold edgeLt; dsimp only; omega
 have h5 : ∀ a, (q5 c y K m a).Pairwise edgeLt := fun a => by
  unfold q5
  rw [List.pairwise_flatMap]
  refine ⟨fun t _ => h6 a t, (List.pairwise_lt_range (n := m)).imp fun {s t} h u hu v hv => ?_⟩
  unfold q6 at hu hv
  simp only [List.mem_flatMap, Q141] at hu hv
  obtain ⟨_, _, _, rfl⟩ := hu
  obtain ⟨_, _, _, rfl⟩ := hv
  unfold edgeLt; dsimp only; omega
 unfold q1
 rw [List.pairwise_flatMap]
 refine ⟨fun t _ => h5 t, (List.pairwise_lt_range (n := K)).imp fun {s t} h u hu v hv => ?_⟩
 unfold q5 q6 at hu hv
 simp only [List.mem_flatMap, Q141] at hu hv
 obtain ⟨_, _, _, _, _, rfl⟩ := hu
 obtain ⟨_, _, _, _, _, rfl⟩ := hv
 unfold edgeLt; dsimp only; omega
theorem q1_eq (q : QI n x y z c M y') : q1 c y (M + 1).toNat x.length = y' := by
 have hm := q.m
 refine pw_ext (lt := edgeLt) (fun a h => by unfold edgeLt at h; omega) (fun a b h => by unfold edgeLt at *; omega) pw_q1 q.up fun e => ?_
 rw [mem_q1, q.iff e]
 constructor
 ·rintro ⟨_, _, _, e0, he0, h1, h2, h3⟩
  refine List.mem_map.2 ⟨e0, he0, ?_⟩
  unfold qE
  cases e
  simp only [Q0.mk.injEq] at *
  exact ⟨h2, h1, h3⟩
 ·intro h
  obtain ⟨e0, he0, rfl⟩ := List.mem_map.1 h
  have hE := q.R.ed e0 he0
  unfold EdgeIn at hE
  have h1 := q.in_ hE.1 hE.2.1
  have h2 := q.in_ hE.2.2.1 hE.2.2.2.1
  unfold qE
  dsimp only
  exact ⟨⟨by omega, by omega⟩, ⟨by omega, by omega⟩, ⟨by omega, by omega⟩, e0, he0, rfl, rfl, rfl⟩
theorem rq4_run (q : QI n x y z c M y') {i : Int} (i0 : 0 ≤ i) (i1 : i < (z.length : Int)) (t : Int) : ∃ f, Q9.l4 z c i t false 0 = some (.inl f) ∧ (f = true ↔ ∃ s ∈ (gt z i).States, gt c s = t) := by
 have hl := q.C.len
 have n1 := q.R.n1
 have hP := (q.R.pr _ (Q32 i0 i1)).2
 have hs := Q190 n1 hP
 obtain ⟨f, hf, hiff⟩ := Q237 (N := (gt z i).States.length) (fun j => gt c (gt (gt z i).States j) = t) (body := fun t_ : Bool × Int => Q9.l4b z c i t t_.1 t_.2) (fun f j j0 j1 => by
  have hin := hP.1 _ (Q32 j0 j1)
  simp only [Q9.l4b]
  rw [if_pos j1, wrap64 (x := j + 1) (by omega) (by omega)]
  cases f with
  | true => rw [if_pos rfl, Q10]; exact ⟨true, rfl, by simp⟩
  | false =>
   rw [if_neg (by decide), if_pos ⟨j0, j1⟩, if_pos ⟨by omega, by omega⟩, Q10]
   exact ⟨_, rfl, by simp⟩) (fun f i hi => by simp only [Q9.l4b]; rw [if_neg hi]; rfl)
 refine ⟨f, hf, hiff.trans ⟨fun ⟨j, j0, j1, h⟩ => ⟨_, Q32 j0 j1, h⟩, fun ⟨s, he, h⟩ => ?_⟩⟩
 obtain ⟨k, hk, rfl⟩ := List.getElem_of_mem he
 have hg : gt (gt z i).States (k : Int) = (gt z i).States[k] := Q88 (List.getElem?_eq_getElem hk)
 exact ⟨k, by omega, by omega, by rw [hg]; exact h⟩
theorem rq3_run (q : QI n x y z c M y') {i : Int} (i0 : 0 ≤ i) (i1 : i < (z.length : Int)) : Q9.l3 z c (M + 1) i [] 0 = some (.inl (qW c (gt z i).States).list) := by
 have hm := q.m
 have n1 := q.R.n1
 have hP := (q.R.pr _ (Q32 i0 i1)).2
 have := Q175 (N := (M + 1).toNat) (B := 1) (M := 100) (pick (fun t => ∃ s ∈ (gt z i).States, gt c s = t) fun t => t) (body := fun t_ : List Int × Int => Q9.l3b z c (M + 1) i t_.1 t_.2) (fun k _ _ => Q210 _ _ _) (fun acc j j0 j1 hacc => by
  obtain ⟨f, hf, hiff⟩ := rq4_run q i0 i1 j
  simp only [Q9.l3b]
  rw [if_pos (by omega), hf, Q10, wrap64 (x := j + 1) (by omega) (by omega)]
  cases f with
  | true => rw [if_pos rfl, if_pos (by simp; omega), Q10, pick_tt (hiff.1 rfl)]; rfl
  | false => rw [if_neg (by decide), Q10, pick_ff (fun h => by have := hiff.2 h; cases this), List.append_nil]; rfl) (fun acc i hi => by simp only [Q9.l3b]; rw [if_neg (by omega)]; rfl) [] (by simp; omega)
 refine this.trans ?_
 congr 2
 rw [List.nil_append]
 refine pw_ext (lt := fun a b : Int => a < b) (fun a => Int.lt_irrefl a) (fun a b h => by omega) ?_ (list_rise _) fun t => ?_
 ·rw [List.pairwise_flatMap]
  refine ⟨fun t _ => by unfold pick; split <;> simp, (List.pairwise_lt_range (n := (M + 1).toNat)).imp fun {s t} h u hu v hv => ?_⟩
  rw [Q141] at hu hv
  obtain ⟨_, rfl⟩ := hu
  obtain ⟨_, rfl⟩ := hv
  omega
 ·rw [qW_mem q hP.1]
  simp only [List.mem_flatMap, List.mem_range, Q141]
  constructor
  ·rintro ⟨k, hk, h, rfl⟩; exact h
  ·rintro ⟨s, hs, rfl⟩
   have := q.in_ (hP.1 s hs).1 (hP.1 s hs).2
   exact ⟨(gt c s).toNat, by omega, by rw [show (((gt c s).toNat : Nat) : Int) = gt c s from by omega]; exact ⟨⟨s, hs, rfl⟩, rfl⟩⟩
theorem rq2_run (q : QI n x y z c M y') : Q9.l2 z c (M + 1) [] 0 = some (.inl (z.map (qP c))) := by
 have nz := q.R.nz
 have h := Q214 (L := z) (β := Q1) (ρ := (List Q1) × (List Q0) × (List Bs) × (List Int) × Int) (qP c) (body := fun t_ : (List Q1) × Int => Q9.l2b z c (M + 1) t_.1 t_.2) (by omega) [] (fun a i i0 i1 ha => by
  simp only [Q9.l2b]
  rw [if_pos i1, if_pos ⟨i0, i1⟩, rq3_run q i0 i1, Q10, if_pos (by simp at ha; omega), wrap64 (x := i + 1) (by omega) (by omega)]
  rfl) (fun a i hi => by simp only [Q9.l2b]; rw [if_neg hi]; rfl)
 rw [List.nil_append] at h
 exact h
theorem refq_run (q : QI n x y z c M y') (hr : Q15.f n x y z = some c) : Q9.f n x y z = some (z.map (qP c), y', x, c, M + 1) := by
 have hl := q.C.len
 have n0 := q.R.n0
 have n1 := q.R.n1
 have nx := q.R.nx
 have hm := q.m
 unfold Q9.f
 rw [hr, Option.bind_some, if_neg (by omega), if_pos (by simp; omega), top_run (by omega) q.mem q.le (by omega), Q10, rq1_run q, Q10, rq2_run q, Q10, q1_eq q, List.nil_append]
end
end
end Go.Bw
namespace Go.Bw
open Go Go.RowKit

theorem refStates (n : Int) (z : List Q1) (i : Int) (ha : ((gt z i).States.length : Int) ≤ 9223372036854775807) :
 (Q27.l1 n z i 0 = some (.inl ()) ∧ StatesS n (gt z i).States) ∨ (Q27.l1 n z i 0 = some (.inr (.inr (.inr false))) ∧ ¬ StatesS n (gt z i).States) := by
 generalize hS : (gt z i).States = S at ha
 have key := Q115 (body := fun t_ : Int => Q27.l1b n z i t_) (N := S.length) (p := fun k => (0 ≤ gt S k ∧ gt S k < n) ∧ (0 < k → gt S (k - 1) < gt S k)) (bad := .inr (.inr false)) ha 0 (by decide) (fun k k0 k1 => by
  simp only [Q27.l1b, hS]
  rw [if_pos k1, if_pos ⟨k0, k1⟩]
  by_cases e1 : gt S k < 0
  ·right; exact ⟨fun h => by have := h.1.1; omega, by simp [e1, jn, upL]⟩
  by_cases e2 : n ≤ gt S k
  ·right; exact ⟨fun h => by have := h.1.2; omega, by simp [e1, e2, jn, upL]⟩
  by_cases hk : 0 < k
  ·have hc : (0 : Int) ≤ k - 1 ∧ k - 1 < (S.length : Int) := by omega
   have hk' : 1 ≤ k := by omega
   rw [wrap64 (x := k - 1) (by omega) (by omega)]
   by_cases hl : gt S k ≤ gt S (k - 1)
   ·right; exact ⟨fun h => by have := h.2 hk; omega, by simp [e1, e2, hk, hk', hc, hl, jn, upL]⟩
   ·left; exact ⟨⟨by omega, fun _ => by omega⟩, by simp [e1, e2, hk, hk', hc, hl, jn, nx]⟩
  ·left; exact ⟨⟨by omega, fun h => absurd h hk⟩, by simp [e1, e2, hk, jn, nx]⟩) (fun k h => by simp only [Q27.l1b, hS]; rw [if_neg h]; rfl)
 have hiff : (∀ k : Int, 0 ≤ k → k < (S.length : Int) → (0 ≤ gt S k ∧ gt S k < n) ∧ (0 < k → gt S (k - 1) < gt S k)) ↔ StatesS n S := by
  constructor
  ·intro h
   refine ⟨fun s hs => ?_, fun k k0 k1 => (h k (by omega) k1).2 (by omega)⟩
   obtain ⟨q, hq, rfl⟩ := List.getElem_of_mem hs
   have := (h q (by omega) (by omega)).1
   rwa [Q88 (List.getElem?_eq_getElem hq)] at this
  ·rintro ⟨h1, h2⟩ k k0 k1
   exact ⟨h1 _ (Q32 k0 k1), fun h => h2 k (by omega) k1⟩
 rcases key with ⟨h, q⟩ | ⟨h, k, k0, k1, k2⟩
 ·exact .inl ⟨h, hiff.1 q⟩
 ·exact .inr ⟨h, fun hr => k2 (hiff.2 hr k k0 k1)⟩
theorem refProps (n : Int) (z : List Q1) (hz : z.length ≤ 8) (hs : ∀ p ∈ z, (p.States.length : Int) ≤ 9223372036854775807) :
 (Q27.l0 n z [] 0 = some (.inl (z.map (·.Name))) ∧ ∀ p ∈ z, StatesS n p.States) ∨ (Q27.l0 n z [] 0 = some (.inr false) ∧ ¬ ∀ p ∈ z, StatesS n p.States) := by
 obtain ⟨r, hr, hq⟩ := Q25 (body := fun t_ : List Bs × Int => Q27.l0b n z t_.1 t_.2) (fun s => 0 ≤ s.2 ∧ s.2 ≤ (z.length : Int) ∧ s.1 = (z.take s.2.toNat).map (·.Name) ∧ ∀ p ∈ z.take s.2.toNat, StatesS n p.States)
  (fun r => (r = .inl (z.map (·.Name)) ∧ ∀ p ∈ z, StatesS n p.States) ∨ (r = .inr false ∧ ¬ ∀ p ∈ z, StatesS n p.States)) (fun s => ((z.length : Int) - s.2).toNat) (fun ⟨l, i⟩ ⟨h0, h1, h2, h3⟩ => by
   dsimp only at h0 h1 h2 h3 ⊢
   subst h2
   unfold Q27.l0b
   by_cases hi : i < (z.length : Int)
   ·have hm := Q32 h0 hi
    rw [if_pos hi, if_pos ⟨h0, hi⟩, if_pos (by simp; omega)]
    have ht : z.take (i + 1).toNat = z.take i.toNat ++ [gt z i] := by
     rw [show (i + 1).toNat = i.toNat + 1 from by omega, List.take_add_one, Q40 h0 hi]; rfl
    rcases refStates n z i (hs _ hm) with ⟨hl, hp⟩ | ⟨hl, hp⟩
    ·right
     rw [hl, Q10, wrap64 (x := i + 1) (by omega) (by omega)]
     refine ⟨_, rfl, ⟨by dsimp only; omega, by dsimp only; omega, by dsimp only; rw [ht]; simp, fun p hp' => ?_⟩, by dsimp only; omega⟩
     dsimp only at hp'
     rw [ht] at hp'
     rcases List.mem_append.1 hp' with h | h
     ·exact h3 p h
     ·simp at h; subst h; exact hp
    ·left
     rw [hl]
     exact ⟨.inr false, rfl, .inr ⟨rfl, fun h => hp (h _ hm)⟩⟩
   ·left
    rw [if_neg hi]
    rw [List.take_of_length_le (by omega)] at h3 ⊢
    exact ⟨_, rfl, .inl ⟨rfl, h3⟩⟩) ([], 0) ⟨Int.le_refl _, by dsimp only; omega, by simp, by simp⟩
 rcases hq with ⟨rfl, h⟩ | ⟨rfl, h⟩
 ·exact .inl ⟨hr, h⟩
 ·exact .inr ⟨hr, h⟩
theorem Q178 (z : List Q1) {i : Int} (h0 : 0 ≤ i) (h1 : i < (z.length : Int)) : gt (z.map (·.Name)) i = (gt z i).Name := by
 unfold gt
 rw [List.getD_eq_getElem?_getD, List.getD_eq_getElem?_getD, List.getElem?_map, List.getElem?_eq_getElem (by omega)]
 rfl
theorem rise_map (z : List Q1) : Rise BLt (z.map (·.Name)) ↔ Rise (fun p q => BLt p.Name q.Name) z := by
 unfold Rise
 rw [List.length_map]
 constructor
 ·intro h i i0 i1
  have := h i i0 i1
  rwa [Q178 z (by omega) (by omega), Q178 z (by omega) i1] at this
 ·intro h i i0 i1
  rw [Q178 z (by omega) (by omega), Q178 z (by omega) i1]
  exact h i i0 i1
theorem Q335 (n : Int) (x : List Bs) (y : List Q0) (z : List Q1) (hs : ∀ p ∈ z, (p.States.length : Int) ≤ 9223372036854775807) : ∃ b, Q27.f n x y z = some b ∧ (b = true ↔ RightS n x y z) := by
 have no : ∀ {P : Prop}, ¬ P → (false = true ↔ P) := fun h => ⟨fun e => (by cases e), fun p => absurd p h⟩
 unfold Q27.f
 by_cases h1 : n < 1
 ·exact ⟨false, by simp [h1, jn], no fun h => by have := h.n0; omega⟩
 by_cases h2 : 24 < n
 ·exact ⟨false, by simp [h1, h2, jn], no fun h => by have := h.n1; omega⟩
 by_cases h3 : 8 < (x.length : Int)
 ·exact ⟨false, by simp [h1, h2, h3, jn], no fun h => by have := h.nx; omega⟩
 by_cases h4 : 8 < (z.length : Int)
 ·exact ⟨false, by simp [h1, h2, h3, h4, jn], no fun h => by have := h.nz; omega⟩
 by_cases h5 : 200 < (y.length : Int)
 ·exact ⟨false, by simp [h1, h2, h3, h4, h5, jn], no fun h => by have := h.ny; omega⟩
 simp only [if_neg h1, Q10, decide_eq_false h2, decide_eq_false h3, decide_eq_false h4, decide_eq_false h5, Bool.false_eq_true, if_false]
 rcases refProps n z (by omega) hs with ⟨hp, hpp⟩ | ⟨hp, hpp⟩
 ·rw [hp, Q10]
  obtain ⟨b1, hb1, c1⟩ := Q284 (z.map (·.Name)) (by simp; omega)
  obtain ⟨b2, hb2, c2⟩ := Q284 x (by omega)
  obtain ⟨b3, hb3, c3⟩ := Q343 n x y z (by omega) (by omega)
  have c1' : b1 = true ↔ (∀ p ∈ z, NameS p.Name) ∧ Rise (fun p q => BLt p.Name q.Name) z := by
   rw [c1, rise_map]
   simp
  simp only [hb1, hb2, hb3, Option.bind_some]
  cases b1 with
  | false => exact ⟨false, by simp [jn], no fun h => by have := c1'.2 ⟨fun p hp => (h.pr p hp).1, h.rz⟩; cases this⟩
  | true =>
   cases b2 with
   | false => exact ⟨false, by simp [jn], no fun h => by have := c2.2 ⟨h.nm, h.rx⟩; cases this⟩
   | true =>
    cases b3 with
    | false => exact ⟨false, by simp [jn], no fun h => by have := c3.2 ⟨h.ed, h.re, h.us⟩; cases this⟩
    | true =>
     refine ⟨true, by simp [jn], ?_⟩
     simp only [true_iff]
     have k1 := c1'.1 rfl
     have k2 := c2.1 rfl
     have k3 := c3.1 rfl
     exact ⟨by omega, by omega, by omega, by omega, by omega, k3.1, fun p hp => ⟨k1.1 p hp, hpp p hp⟩, k2.1, k3.2.2, k3.2.1, k2.2, k1.2⟩
 ·rw [hp]
  exact ⟨false, rfl, no fun h => hpp fun p hp => (h.pr p hp).2⟩
theorem right_eq (n : Int) (x : List Bs) (y : List Q0) (z : List Q1) (hs : ∀ p ∈ z, (p.States.length : Int) ≤ 9223372036854775807) : ∃ b, Q29.f n x y z = some b ∧ Q27.f n x y z = some b := by
 obtain ⟨b, hb, h1⟩ := Q215 n x y z hs
 obtain ⟨c, hc, h2⟩ := Q335 n x y z hs
 have : b = c := by rw [Bool.eq_iff_iff, h1, h2]
 subst this
 exact ⟨b, hb, hc⟩
end Go.Bw
namespace Go.Bw
open Go Go.RowKit

theorem same_ints {c : List Int} (h : (c.length : Int) ≤ 1000000) : Q39.f c c = some true := by
 have e0 : Q39.l0 c c 0 = some (.inl ()) := Q152 (τ := Unit) (N := c.length) (by omega) (fun i h0 h1 => by simp only [Q39.l0b]; rw [if_pos h1, if_pos ⟨h0, h1⟩, if_pos ⟨h0, h1⟩, if_pos trivial]; rfl) (fun i h => by simp only [Q39.l0b]; rw [if_neg h]; rfl)
 unfold Q39.f
 rw [if_pos rfl, e0, Q10]
abbrev Qt := (List Q1) × (List Q0) × (List Bs) × (List Int) × Int
theorem over0 {c : List Int} {q : Qt} (hq : q.2.2.2.1 = c) (hc : (c.length : Int) ≤ 1000000) : ∃ s, Q8.l0 c q c q.2.2.2.1 0 = some (.inl s) := by
 obtain ⟨r, hr, s, rfl⟩ := Q25 (body := fun t_ : List Int × List Int × Int => Q8.l0b c q t_.1 t_.2.1 t_.2.2) (fun p => 0 ≤ p.2.2) (fun r => ∃ s, r = .inl s) (fun p => ((c.length : Int) - p.2.2).toNat) (fun ⟨a, b, i⟩ i0 => by
  dsimp only at i0 ⊢
  simp only [Q8.l0b]
  by_cases hi : i < (c.length : Int)
  ·right
   rw [if_pos hi, if_pos ⟨i0, hi⟩, hq, if_pos ⟨i0, hi⟩, wrap64 (x := i + 1) (by omega) (by omega)]
   exact ⟨_, rfl, by dsimp only; omega, by dsimp only; omega⟩
  ·left; rw [if_neg hi]; exact ⟨_, rfl, _, rfl⟩) (c, q.2.2.2.1, 0) (Int.le_refl _)
 exact ⟨s, hr⟩
theorem over1 {q : Qt} (hc : (q.2.1.length : Int) ≤ 1000000) : ∃ s, Q8.l1 q q.2.1 0 = some (.inl s) := by
 obtain ⟨r, hr, s, rfl⟩ := Q25 (body := fun t_ : List Q0 × Int => Q8.l1b q t_.1 t_.2) (fun p => 0 ≤ p.2) (fun r => ∃ s, r = .inl s) (fun p => ((q.2.1.length : Int) - p.2).toNat) (fun ⟨a, i⟩ i0 => by
  dsimp only at i0 ⊢
  simp only [Q8.l1b]
  by_cases hi : i < (q.2.1.length : Int)
  ·right
   rw [if_pos hi, if_pos ⟨i0, hi⟩, wrap64 (x := i + 1) (by omega) (by omega)]
   exact ⟨_, rfl, by dsimp only; omega, by dsimp only; omega⟩
  ·left; rw [if_neg hi]; exact ⟨_, rfl, _, rfl⟩) (q.2.1, 0) (Int.le_refl _)
 exact ⟨s, hr⟩
theorem over2 {q : Qt} (hc : (q.2.2.1.length : Int) ≤ 1000000) : ∃ s, Q8.l2 q q.2.2.1 0 = some (.inl s) := by
 obtain ⟨r, hr, s, rfl⟩ := Q25 (body := fun t_ : List Bs × Int => Q8.l2b q t_.1 t_.2) (fun p => 0 ≤ p.2) (fun r => ∃ s, r = .inl s) (fun p => ((q.2.2.1.length : Int) - p.2).toNat) (fun ⟨a, i⟩ i0 => by
  dsimp only at i0 ⊢
  simp only [Q8.l2b]
  by_cases hi : i < (q.2.2.1.length : Int)
  ·right
   rw [if_pos hi, if_pos ⟨i0, hi⟩, wrap64 (x := i + 1) (by omega) (by omega)]
   exact ⟨_, rfl, by dsimp only; omega, by dsimp only; omega⟩
  ·left; rw [if_neg hi]; exact ⟨_, rfl, _, rfl⟩) (q.2.2.1, 0) (Int.le_refl _)
 exact ⟨s, hr⟩
theorem over9 {o : List (Option Q1)} {i : Int} {L : List Int} (hL : L = ((gt o i).getD default).States ++ [3]) (hc : (L.length : Int) ≤ 1000000) : ∃ s, Q8.l9 o i L 0 = some (.inl s) := by
 obtain ⟨r, hr, s, rfl⟩ := Q25 (body := fun t_ : List Int × Int => Q8.l9b o i t_.1 t_.2) (fun p => 0 ≤ p.2) (fun r => ∃ s, r = .inl s) (fun p => ((L.length : Int) - p.2).toNat) (fun ⟨a, j⟩ j0 => by
  dsimp only at j0 ⊢
  simp only [Q8.l9b]
  rw [← hL]
  by_cases hi : j < (L.length : Int)
  ·right
   rw [if_pos hi, if_pos ⟨j0, hi⟩, wrap64 (x := j + 1) (by omega) (by omega)]
   exact ⟨_, rfl, by dsimp only; omega, by dsimp only; omega⟩
  ·left; rw [if_neg hi]; exact ⟨_, rfl, _, rfl⟩) (L, 0) (Int.le_refl _)
 exact ⟨s, hr⟩
theorem over3 {q : Qt} (hc : (q.1.length : Int) ≤ 1000000) (hs : ∀ p ∈ q.1, p.States.length ≤ 1000) : ∃ s, Q8.l3 q (q.1.map some) 0 = some (.inl s) := by
 obtain ⟨r, hr, s, rfl⟩ := Q25 (body := fun t_ : List (Option Q1) × Int => Q8.l3b q t_.1 t_.2) (fun p => 0 ≤ p.2 ∧ p.1.length = q.1.length ∧ ∀ j : Int, p.2 ≤ j → j < (q.1.length : Int) → gt p.1 j = some (gt q.1 j)) (fun r => ∃ s, r = .inl s) (fun p => ((q.1.length : Int) - p.2).toNat) (fun ⟨o, i⟩ ⟨i0, hl, ho⟩ => by
  dsimp only at i0 hl ho ⊢
  simp only [Q8.l3b]
  by_cases hi : i < (q.1.length : Int)
  ·right
   have hg := ho i (Int.le_refl _) hi
   have hsm := hs _ (Q32 i0 hi)
   obtain ⟨s, hs9⟩ := over9 (o := o) (i := i) (L := (gt q.1 i).States ++ [3]) (by rw [hg]; rfl) (by simp; omega)
   rw [if_pos hi, if_pos ⟨i0, hi⟩, hg, if_pos (show (some (gt q.1 i)).isSome = true from rfl)]
   dsimp only [Option.getD_some]
   rw [if_pos (by simp; omega), hs9, Q10, wrap64 (x := i + 1) (by omega) (by omega)]
   refine ⟨_, rfl, ⟨by dsimp only; omega, by dsimp only; rw [Q93]; exact hl, fun j j0 j1 => ?_⟩, by dsimp only; omega⟩
   dsimp only at j0 ⊢
   rw [Q90 i0 (by omega) (by omega), if_neg (by omega)]
   exact ho j (by omega) j1
  ·left; rw [if_neg hi]; exact ⟨_, rfl, _, rfl⟩) (q.1.map some, 0) ⟨Int.le_refl _, by simp, fun j j0 j1 => gt_map some j0 j1⟩
 exact ⟨s, hr⟩
theorem over4 : Q8.l4 = Q8.l0 := rfl
theorem over5 : Q8.l5 = Q8.l1 := rfl
theorem over6 : Q8.l6 = Q8.l2 := rfl
theorem over7 : Q8.l7 = Q8.l3 := rfl
theorem law_of {n : Int} {x : List Bs} {y : List Q0} {z : List Q1} {q : Qt} {c : List Int} (h1 : Q9.f n x y z = some q) (h2 : Q34.f n x y z = some c) (h3 : Q16.f n x y z = some q) (hq : q.2.2.2.1 = c)
 (hc : (c.length : Int) ≤ 1000) (ha : (q.2.2.1.length : Int) ≤ 1000) (he : (q.2.1.length : Int) ≤ 1000) (hp : (q.1.length : Int) ≤ 1000) (hs : ∀ p ∈ q.1, p.States.length ≤ 1000) : Q8.f n x y z = some true := by
 obtain ⟨s0, e0⟩ := over0 hq (by omega)
 obtain ⟨s1, e1⟩ := over1 (q := q) (by omega)
 obtain ⟨s2, e2⟩ := over2 (q := q) (by omega)
 obtain ⟨s3, e3⟩ := over3 (q := q) (by omega) hs
 have hsame := same_self q.2.2.2.2 q.2.2.1 q.2.1 q.1 (by omega) (by omega) (by omega) (fun p hp => by have := hs p hp; omega)
 unfold Q8.f
 rw [Q307]
 simp only [Option.bind_some, h1, h2, h3, hq, same_ints (c := c) (by omega), hsame, over4, over5, over6, over7]
 rw [hq] at e0
 simp [jn, e0, e1, e2, e3]
theorem Q320 (n : Int) (x : List Bs) (y : List Q0) (z : List Q1) (hs : ∀ p ∈ z, (p.States.length : Int) ≤ 9223372036854775807) : Q8.f n x y z = some true := by
 obtain ⟨b, hb, hb'⟩ := right_eq n x y z hs
 obtain ⟨b2, hb2, hf⟩ := Q215 n x y z hs
 rw [hb] at hb2
 have e := Option.some.inj hb2
 subst e
 rcases Q324 n x y z hs with ⟨hno, hN, hE⟩ | ⟨R, c, hc, C⟩
 ·have hbf : b = false := by
   cases b with
   | false => rfl
   | true => exact absurd (hf.1 rfl) hno
  subst hbf
  have hq : Q16.f n x y z = some ([], [], [], [], 0) := by
   unfold Q16.f
   rw [hE, Option.bind_some]
   rfl
  have hq' : Q9.f n x y z = some ([], [], [], [], 0) := by
   unfold Q9.f Q15.f
   rw [hb', Option.bind_some, if_neg (by decide), Option.bind_some]
   rfl
  exact law_of (q := ([], [], [], [], 0)) hq' hE hq rfl (by decide) (by decide) (by decide) (by decide) (by simp)
 ·obtain ⟨M, y', hq, hm, hM, hle, hup, hiff, hlen⟩ := Q321 R hc C
  have q : QI n x y z c M y' := ⟨R, C, hm, hM, hle, hup, hiff, hlen⟩
  have hbt : b = true := hf.2 R
  subst hbt
  have hl := C.len
  have n1 := R.n1
  have nx := R.nx
  have ny := R.ny
  have nz := R.nz
  refine law_of (refq_run q (Q337 R hb' C)) hc hq rfl (by omega) (by dsimp only; omega) (by dsimp only; omega) (by dsimp only; rw [List.length_map]; omega) fun p hp => ?_
  obtain ⟨p0, hp0, rfl⟩ := List.mem_map.1 hp
  exact Nat.le_trans (Q253 _) (by decide)
end Go.Bw
namespace Go.Bw
open Go Go.RowKit Go.Proofs Go.ChangeShapes Go.WideShapes
abbrev laid64 : List (String × DataW Unit) := [("math/bits.deBruijn64tab", Go.Proofs.YtbkooifhcekpmaaGreatDoor.Rows.laid_math_bits_deBruijn64tab)]
theorem Q304 {H : Type} : (Go.Proofs.YtbkooifhcekpmaaGreatDoor.Rows.laid_math_bits_deBruijn64tab : DataW H) = .agg (Tryz.gtab0.map fun a => .lit (.int .u8 a)) := rfl
theorem Q329 : Tryz.prog.globalNamed "math/bits.deBruijn64tab" = some 0 := by kernel_rfl
theorem Q313 : (Tryz.prog.globals[0]?).map (·.type) = some 138 := by kernel_rfl
theorem Q306 (os : Os) (args : Array Value) : laidMetH Tryz.prog laid64 ((World.doorLaid Tryz.prog 31 os).forCall (fun _ _ => 0) ⟨#[], args, []⟩).memory :=
 laidMetH_of_parts3 (fuel := 8) (laidMet_of_run' 8 (by kernel_rfl) (by kernel_rfl)) (by kernel_rfl) (by kernel_rfl)
theorem laid64_rd {W : World} (h : laidMetH Tryz.prog laid64 W) : RdS (Fl.int .u8).rep (wh W) (some ⟨0, 0, none⟩) Tryz.gtab0 := by
 rw [MakeChecks.laidMetH_plain _ _ _ (by kernel_rfl)] at h
 obtain ⟨ps, ⟨g0, t0, cs0, f0, p0, q0, hg0, ht0, hv0, hd0, _, _⟩, _, _⟩ := h
 obtain rfl := Option.some.inj (Q329.symm.trans hg0)
 obtain rfl := Option.some.inj (Q313.symm.trans ht0)
 obtain ⟨xs, m1, rfl, hx1, hlen, hn3, hel⟩ := DataW.trod_array Tryz.underlying138 hd0
 have hx : xs.map (·.1) = Tryz.gtab0.map fun a => (DataW.lit (.int .u8 a) : DataW Unit) := by
  have h1 := (Prod.mk.inj hx1).1
  have h2 := (Q304 (H := Unit)).symm.trans h1
  exact (DataW.agg.inj h2).symm
 refine Q309 fun i hi => ?_
 have hgl : Tryz.gtab0.length = 64 := rfl
 have hi' : i < 64 := by omega
 have he := hel i hi'
 have hxi : i < xs.length := by omega
 rw [List.getElem?_eq_getElem hxi] at he
 obtain ⟨k, e1, e2, _⟩ := DataW.trod_int Tryz.underlying5 he
 obtain ⟨v, hv⟩ : ∃ v, Tryz.gtab0[i]? = some v := ⟨_, List.getElem?_eq_getElem hi⟩
 have h2 := congrArg (fun l => l[i]?) hx
 simp only [List.getElem?_map, List.getElem?_eq_getElem hxi, hv, Option.map_some, Option.some.injEq] at h2
 rw [e2] at h2
 have hk : k = v := by simpa using h2
 have c5 : Tryz.prog.cellsOf 5 = 1 := by kernel_rfl
 rw [c5, Nat.mul_one] at e1
 rw [World.var?_cell hg0 hv0 i]
 have hc : (cs0.toList.drop i)[0]? = some (.int .u8 k) := by
  cases hd : cs0.toList.drop i with
  | nil => rw [hd] at e1; simp at e1
  | cons a r => rw [hd] at e1; simp at e1; simp [e1]
 rw [List.getElem?_drop, Nat.add_zero] at hc
 rw [List.getD_eq_getElem?_getD, hv, Option.getD_some, ← hk]
 simpa using hc
end Go.Bw
namespace Go.Bw
open Go Go.RowKit
theorem Q293 {n : Int} {x : List Bs} {y : List Q0} {z : List Q1} (h : (Lit.int .i64 n).wf = true ∧ (x.length ≤ maxLen ∧ ∀ s ∈ x, s.length ≤ maxLen) ∧ (y.length ≤ maxLen ∧ ∀ e ∈ y, ((Lit.int .i64 e.From).wf = true ∧ (Lit.int .i64 e.Action).wf = true ∧ (Lit.int .i64 e.To).wf = true)) ∧
 (z.length ≤ maxLen ∧ ∀ p ∈ z, (p.Name.length ≤ maxLen ∧ (p.States.length ≤ maxLen ∧ ∀ s ∈ p.States, (Lit.int .i64 s).wf = true)))) :
 Q8.f n x y z = some true := Q320 n x y z fun p hp => by
 have h1 := (h.2.2.2.2 p hp).2.1
 have h2 : maxLen ≤ 9223372036854775807 := by decide
 omega
end Go.Bw
