/- Ranging over a string; a pointer that may be nil, to a block of plain cells of the call's own; errors. Conditions: none. -/
import Derived.Test.YtbkooifhcekpmaaGreatBwStr
set_option linter.unusedVariables false
set_option linter.unusedSimpArgs false
set_option linter.unusedSectionVars false
namespace Go.Bw
open Go Go.RowKit

/-- The rune at a place of a string, and how many bytes it has. -/
def runeAt (x : Bs) (k : Nat) : Int := ((Utf8.decode ⟨x.toArray⟩ k).1 : Int)
def runeLen (x : Bs) (k : Nat) : Nat := (Utf8.decode ⟨x.toArray⟩ k).2
section
variable {P : Program} [Tys P] {os : List Oper} {Q : Exit → Act → World → Prop} {rest : List Oper} {n : Nat} {ds : List Deferred} {R : Res} {env : List (Nat × Value)} {l l' : List HProp}
variable {d ty t : Nat} {pos : String} {af : Array Edge} {g : Option (Nat × Bool)} {dd : Option Nat} {xs ys : Bs} {K : Act → World → Prop}
theorem run_getIt {w : World} {b : Nat} {s : ByteArray} {k : Nat} (h : w.heap[b]? = some (.stringIter s k)) : (getObj b).run P w = .ok (.stringIter s k) w := by simp [getObj, Sem.run, h]
theorem run_setIt {w : World} {b : Nat} {s : ByteArray} {k : Nat} (o : Obj) (h : w.heap[b]? = some (.stringIter s k)) : (setObj b o).run P w = .ok () { w with heap := w.heap.setIfInBounds b o } := by simp [setObj, Sem.run, h]
theorem At.rangeStr {x : Operand} {ii : TI} (hg : grd os env g = some true) (hi : ti P t = some ii) (hk : ii.k = .string) (hx : ev env x = some (.string ⟨xs.toArray⟩)) (hd : Nat.blt d n = true)
    (h : ∀ b, At n ds R ((d, .pointer (some ⟨b, 0, none⟩)) :: env) (pt b (.stringIter ⟨xs.toArray⟩ 0) :: l) (wpList P os.toArray Q rest)) :
    At n ds R env l (wpList P os.toArray Q (⟨some d, .range t x, ty, pos, af, g⟩ :: rest)) := op_ex hg rfl hd fun a w e hs => by
  refine ⟨_, _, _, ?_, hs.alloc (.stringIter ⟨xs.toArray⟩ 0), h _⟩
  simp [execOp, Instr.range, e.ev hx, run_underlying ((ti_ok hi).string hk)]
theorem At.nextT {x : Operand} {b k : Nat} (hg : grd os env g = some true) (hx : ev env x = some (.pointer (some ⟨b, 0, none⟩))) (f : Frt l (pt b (.stringIter ⟨xs.toArray⟩ k)) l') (hk : k < xs.length) (hd : Nat.blt d n = true)
    (h : At n ds R ((d, .tuple #[.bool true, .int .i64 (k : Int), .int .i32 (runeAt xs k)]) :: env) (pt b (.stringIter ⟨xs.toArray⟩ (k + runeLen xs k)) :: l') (wpList P os.toArray Q rest)) :
    At n ds R env l (wpList P os.toArray Q (⟨some d, .next x true, ty, pos, af, g⟩ :: rest)) := op_ex hg rfl hd fun a w e hs => by
  have hs1 := hs.frt f
  have hb := hs1.pt
  have hlt : b < w.heap.size := (Array.getElem?_eq_some_iff.1 hb).1
  have hk' : k < (ByteArray.mk xs.toArray).size := by rw [bs_size]; exact hk
  have hsz : (ByteArray.mk xs.toArray).size = xs.length := bs_size xs
  refine ⟨_, { w with heap := w.heap.setIfInBounds b (.stringIter ⟨xs.toArray⟩ (k + runeLen xs k)) }, _, ?_, ?_, h⟩
  · simp only [execOp, Instr.next, e.ev hx, Sem.run_bind, run_getIt hb, Result.andThen, if_pos hk', run_setIt _ hb, Sem.run_pure]
    simp [runeAt, runeLen, goInt]
  · refine hs1.modify rfl rfl rfl (Nat.le_refl _) ?_ fun x hx => ?_
    · show (w.heap.setIfInBounds b _)[b]? = _
      simp [hlt]
    · show (w.heap.setIfInBounds b _)[x]? = _
      rw [Array.getElem?_setIfInBounds_ne (fun h => hx h.symm)]
theorem At.nextF {x : Operand} {b k : Nat} (hg : grd os env g = some true) (hx : ev env x = some (.pointer (some ⟨b, 0, none⟩))) (f : Frt l (pt b (.stringIter ⟨xs.toArray⟩ k)) l') (hk : ¬ k < xs.length) (hd : Nat.blt d n = true)
    (h : At n ds R ((d, .tuple #[.bool false]) :: env) l (wpList P os.toArray Q rest)) :
    At n ds R env l (wpList P os.toArray Q (⟨some d, .next x true, ty, pos, af, g⟩ :: rest)) := op_ex hg rfl hd fun a w e hs => by
  have hs1 := hs.frt f
  have hb := hs1.pt
  have hk' : ¬ k < (ByteArray.mk xs.toArray).size := by rw [bs_size]; exact hk
  refine ⟨_, w, _, ?_, hs, h⟩
  simp only [execOp, Instr.next, e.ev hx, Sem.run_bind, run_getIt hb, Result.andThen, if_neg hk', Sem.run_pure]
end
end Go.Bw
