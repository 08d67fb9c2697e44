/- The builtin 'copy' into a row of the call's own. Conditions: none. -/
import Derived.Test.YtbkooifhcekpmaaGreatBwMix
import Derived.Laws.CopyOwn
set_option linter.unusedVariables false
set_option linter.unusedSimpArgs false
set_option linter.unusedSectionVars false
namespace Go.Bw
open Go Go.RowKit

section
variable {P : Program} [Tys P] {os : List Oper} {Q : Exit → Act → World → Prop} {rest : List Oper} {n : Nat} {ds : List Deferred} {R : Res} {env : List (Nat × Value)} {l l' : List HProp}
variable {d ty : Nat} {pos : String} {af : Array Edge} {g : Option (Nat × Bool)} {α : Type} [Inhabited α] {F : Fl α} {e t t2 : Nat} {A : Option Addr} {c m : Nat} {xs ys : List α} {K : Act → World → Prop}
theorem flat_take_pre (k : Nat) {j : Nat} {u : Value} (h : ((ys.take k).flatMap F.enc)[j]? = some u) : (ys.flatMap F.enc)[j]? = some u := by
  have : ys.flatMap F.enc = (ys.take k).flatMap F.enc ++ (ys.drop k).flatMap F.enc := by rw [← List.flatMap_append, List.take_append_drop]
  rw [this, List.getElem?_append_left (List.getElem?_eq_some_iff.1 h).1]
  exact h
theorem flat_drop1 (hF : F.sz = 1) (k : Nat) (hk : k ≤ xs.length) : (xs.flatMap F.enc).drop k = (xs.drop k).flatMap F.enc := by
  have : xs.flatMap F.enc = (xs.take k).flatMap F.enc ++ (xs.drop k).flatMap F.enc := by rw [← List.flatMap_append, List.take_append_drop]
  rw [this, List.drop_append_of_le_length (by rw [flat_len, hF]; simp; omega), List.drop_of_length_le (by rw [flat_len, hF]; simp; omega), List.nil_append]
theorem At.copyRd (hg : grd os env g = some true) {x y : Operand} {B : Option Addr} {k cb : Nat} {ii j : TI} (f : Frt l (row F e A m c xs) l') (hr : RdS F.rep R.heap B ys) (hk2 : ys.length = k) (hF : F.sz = 1) (hi : ti P t = some ii) (hk : ii.k = .slice e) (hj : ti P e = some j) (hjs : j.size = 1)
    (hx : ev env x = some (.slice A m c)) (hy : ev env y = some (.slice B k cb)) (hd : Nat.blt d n = true)
    (h : At n ds R ((d, .int .i64 ((Nat.min k m : Nat) : Int)) :: env) (row F e A m c (ys.take m ++ xs.drop k) :: l') (wpList P os.toArray Q rest)) :
    At n ds R env l (wpList P os.toArray Q (⟨some d, .call ⟨.builtin .copy, #[x, y], #[t, t2]⟩, ty, pos, af, g⟩ :: rest)) := op_ex hg rfl hd fun a w e0 hs => by
  have hs1 := hs.frt f
  have hm : xs.length = m := let ⟨_, o, _⟩ := hs1.head; row_len o
  subst hk2
  subst hm
  obtain ⟨xi, z, hxi, hsz, hby, hze, hzc⟩ := (ti_ok hj).info
  have hu := (ti_ok hi).slice hk
  have hsz1 : (P.info? e).map (·.size) = some 1 := by rw [hxi]; simp [hsz, hjs]
  by_cases h0 : Nat.min ys.length xs.length = 0
  · have hsame : ys.take xs.length ++ xs.drop ys.length = xs := by
      rcases Nat.lt_or_ge 0 ys.length with h1 | h1
      · have h2 : xs = [] := List.eq_nil_of_length_eq_zero (by have : Nat.min ys.length xs.length = min ys.length xs.length := rfl; omega)
        rw [h2]; simp
      · have h2 : ys = [] := List.eq_nil_of_length_eq_zero (by omega)
        rw [h2]; simp
    rw [hsame, h0] at h
    refine ⟨goInt 0, w, row F e A xs.length c xs :: l', ?_, hs1, h⟩
    have hrun := run_copy_none (P := P) w t t2 ty e A B xs.length c ys.length cb hu hsz1 h0
    simp only [execOp, resolve, invoke, builtin, Sem.run_bind, Sem.run_pure, Result.andThen_ok, List.map_toArray, List.map_cons, List.map_nil, e0.ev hx, e0.ev hy, hrun]
  · have hmin : Nat.min ys.length xs.length = min ys.length xs.length := rfl
    have hyn : ys ≠ [] := fun he => h0 (by rw [he]; simp [hmin])
    obtain ⟨ad, rfl, hcells⟩ := Src.rd hr hyn w hs
    obtain ⟨h', o, s, kk⟩ := hs1.upd
    obtain ⟨gb, cur, rfl, hgb, h3, h4, h5, h6⟩ := row_some o (by omega)
    have hgw : w.heap[gb]? = some (.cells cur e (0, 0)) := s gb _ hgb
    have hcl : ((ys.take xs.length).flatMap F.enc).length = Nat.min ys.length xs.length := by rw [flat_len, hF, hmin]; simp; omega
    have hone : ∀ v ∈ (ys.take xs.length).flatMap F.enc, v.oneCell' = true := flat_one F _
    have hrun := run_copy_row (P := P) w t t2 ty e gb 0 xs.length c ad ys.length cb cur e ((ys.take xs.length).flatMap F.enc) hu hsz1 hgw hcl (fun j v hv => hcells j v (flat_take_pre _ hv)) (by rw [hcl, h5, hF, hmin]; omega) hone
    rw [hcl] at hrun
    refine ⟨goInt (Nat.min ys.length xs.length), w.setRow gb (cur.toList.take 0 ++ (ys.take xs.length).flatMap F.enc ++ cur.toList.drop (0 + Nat.min ys.length xs.length)).toArray, _, ?_, ?_, h⟩
    · simp only [execOp, resolve, invoke, builtin, Sem.run_bind, Sem.run_pure, Result.andThen_ok, List.map_toArray, List.map_cons, List.map_nil, e0.ev hx, e0.ev hy, hrun]
    · have hnew := setRow_heap w gb cur (cur.toList.take 0 ++ (ys.take xs.length).flatMap F.enc ++ cur.toList.drop (0 + Nat.min ys.length xs.length)).toArray e (0, 0) hgw
      have hcl5 : cur.toList.length = c := by rw [Array.length_toList, h5, hF, Nat.mul_one]
      have hll : (cur.toList.take 0 ++ (ys.take xs.length).flatMap F.enc ++ cur.toList.drop (0 + Nat.min ys.length xs.length)).length = cur.size := by
        rw [List.length_append, List.length_append, List.length_drop, hcl, hcl5, h5, hF, hmin]; simp; omega
      refine kk _ (single gb (.cells (cur.toList.take 0 ++ (ys.take xs.length).flatMap F.enc ++ cur.toList.drop (0 + Nat.min ys.length xs.length)).toArray e)) _ ?_ rfl rfl rfl (Nat.le_refl _) (fun x o' hx hn => ?_) (fun x o' hx => ?_) (fun x o' hx => ?_)
      · have hsl : (ys.take xs.length ++ xs.drop ys.length).length = xs.length := by simp; omega
        refine ⟨by rw [flat_len, hsl], .inr ⟨gb, _, rfl, single_self _ _, h3, h4, by rw [List.size_toArray, hll, h5], ?_⟩⟩
        rw [hF, Nat.mul_one] at h6
        rw [hF, Nat.mul_one, List.flatMap_append, List.take_zero, List.nil_append, Nat.zero_add, List.take_append, hcl, List.take_of_length_le (by rw [hcl, hmin]; omega)]
        congr 1
        rw [← List.drop_take]
        rw [h6]
        by_cases hlt : ys.length ≤ xs.length
        · rw [show Nat.min ys.length xs.length = ys.length from by rw [hmin]; omega]
          exact flat_drop1 hF _ hlt
        · rw [List.drop_of_length_le (by rw [flat_len, hF, hmin]; omega), List.drop_of_length_le (by omega)]
          rfl
      · rw [setRow_other w gb x _ (fun hxg => by subst hxg; rw [hgb] at hn; cases hn)]; exact hx
      · obtain ⟨rfl, rfl⟩ := single_eq hx; exact hnew
      · obtain ⟨rfl, rfl⟩ := single_eq hx; exact .inl ⟨_, hgb⟩
end
end Go.Bw
