/- Models in a form that can be computed. Conditions: none. -/
import Derived.Test.YtbkooifhcekpmaaGreatBwRi3A
import Derived.Test.YtbkooifhcekpmaaGreatBwRi3
import Derived.Test.YtbkooifhcekpmaaGreatBwNew
import Derived.Test.YtbkooifhcekpmaaGreatBwParA
import Derived.Test.YtbkooifhcekpmaaGreatBwParB
import Derived.Test.YtbkooifhcekpmaaGreatBwPar
import Derived.Test.YtbkooifhcekpmaaGreatBwTrn
import Derived.Test.YtbkooifhcekpmaaGreatBwTwin
import Derived.Test.YtbkooifhcekpmaaGreatBwLtsCmp
set_option linter.unusedVariables false
set_option linter.unusedSimpArgs false
set_option linter.unusedSectionVars false
namespace Go.Bw
open Go Go.RowKit
def lts_Right_1.fc (fu : Nat) (a0 : Int) (a1_0 : Int) (a1_1 : List Bs) (a1_2 : List api_Edge) (a1_3 : List api_Prop) : Option Bool :=
 jn (
 if 0 ≤ a0 then
 some (.inl (decide (a0 < a1_0)))
 else
 some (.inl false)) (fun (x452 : Bool) =>
 some x452)
theorem lts_Right_1.f_ap (fu : Nat) (a0 : Int) (a1_0 : Int) (a1_1 : List Bs) (a1_2 : List api_Edge) (a1_3 : List api_Prop) : Ap (lts_Right_1.fc fu a0 a1_0 a1_1 a1_2 a1_3) (lts_Right_1.f a0 a1_0 a1_1 a1_2 a1_3) := by
  unfold lts_Right_1.fc lts_Right_1.f
  repeat' with_reducible first | refine Ap.jn ?_ fun _ => ?_ | refine Ap.ite ?_ ?_ | exact Ap.refl _
def lts_name_1.fc (fu : Nat) (a0 : Int) : Option Bool :=
 jn (
 if 97 ≤ a0 then
 some (.inl (decide (a0 ≤ 122)))
 else
 some (.inl false)) (fun (x452 : Bool) =>
 jn (
 if x452 = true then
 some (.inl true)
 else
 jn (
 if 65 ≤ a0 then
 some (.inl (decide (a0 ≤ 90)))
 else
 some (.inl false)) (fun (x1481 : Bool) =>
 some (.inl x1481))) (fun (x657 : Bool) =>
 jn (
 if x657 = true then
 some (.inl true)
 else
 jn (
 if 48 ≤ a0 then
 some (.inl (decide (a0 ≤ 57)))
 else
 some (.inl false)) (fun (x1274 : Bool) =>
 some (.inl x1274))) (fun (x862 : Bool) =>
 jn (
 if x862 = true then
 some (.inl true)
 else
 some (.inl (decide (a0 = 95)))) (fun (x1067 : Bool) =>
 some (!x1067)))))
theorem lts_name_1.f_ap (fu : Nat) (a0 : Int) : Ap (lts_name_1.fc fu a0) (lts_name_1.f a0) := by
  unfold lts_name_1.fc lts_name_1.f
  repeat' with_reducible first | refine Ap.jn ?_ fun _ => ?_ | refine Ap.ite ?_ ?_ | exact Ap.refl _
def strings_indexFunc.l0bc (fu : Nat) (a0 : Bs) (a2 : Bool) (x856 : Nat) : Option ((Nat) ⊕ ((Nat) ⊕ (Int))) :=
 if x856 < a0.length then
 (lts_name_1.fc fu (runeAt a0 x856)).bind fun t1070 =>
 if (t1070 == a2) = true then
 upL (some (x856 : Int))
 else
 nx (x856 + runeLen a0 x856)
 else
 dn (.inl x856)
theorem strings_indexFunc.l0b_ap (fu : Nat) (a0 : Bs) (a2 : Bool) (x856 : Nat) : Ap (strings_indexFunc.l0bc fu a0 a2 x856) (strings_indexFunc.l0b a0 a2 x856) := by
  unfold strings_indexFunc.l0bc strings_indexFunc.l0b
  repeat' with_reducible first | exact lts_name_1.f_ap _ _ | refine Ap.ite ?_ ?_ | refine Ap.upL ?_ | refine Ap.bind ?_ fun _ => ?_ | exact Ap.refl _
def strings_indexFunc.l0c (fu : Nat) (a0 : Bs) (a2 : Bool) (x856 : Nat) : Option ((Nat) ⊕ (Int)) := iterC fu (fun t_ : Nat => strings_indexFunc.l0bc fu a0 a2 t_) x856
theorem strings_indexFunc.l0_ap (fu : Nat) (a0 : Bs) (a2 : Bool) (x856 : Nat) : Ap (strings_indexFunc.l0c fu a0 a2 x856) (strings_indexFunc.l0 a0 a2 x856) := by
  unfold strings_indexFunc.l0c strings_indexFunc.l0
  repeat' with_reducible first | exact strings_indexFunc.l0b_ap _ _ _ _ | refine Ap.iter fun _ => ?_ | exact Ap.refl _
def strings_indexFunc.fc (fu : Nat) (a0 : Bs) (a2 : Bool) : Option Int :=
 jn (strings_indexFunc.l0c fu a0 a2 0) (fun (x1057 : Nat) =>
 some (-1))
theorem strings_indexFunc.f_ap (fu : Nat) (a0 : Bs) (a2 : Bool) : Ap (strings_indexFunc.fc fu a0 a2) (strings_indexFunc.f a0 a2) := by
  unfold strings_indexFunc.fc strings_indexFunc.f
  repeat' with_reducible first | exact strings_indexFunc.l0_ap _ _ _ _ | refine Ap.jn ?_ fun _ => ?_ | exact Ap.refl _
def strings_IndexFunc.fc (fu : Nat) (a0 : Bs) : Option Int :=
 (strings_indexFunc.fc fu a0 true).bind fun t252 =>
 some t252
theorem strings_IndexFunc.f_ap (fu : Nat) (a0 : Bs) : Ap (strings_IndexFunc.fc fu a0) (strings_IndexFunc.f a0) := by
  unfold strings_IndexFunc.fc strings_IndexFunc.f
  repeat' with_reducible first | exact strings_indexFunc.f_ap _ _ _ | refine Ap.bind ?_ fun _ => ?_ | exact Ap.refl _
def strings_ContainsFunc.fc (fu : Nat) (a0 : Bs) : Option Bool :=
 (strings_IndexFunc.fc fu a0).bind fun t252 =>
 some (decide (0 ≤ t252))
theorem strings_ContainsFunc.f_ap (fu : Nat) (a0 : Bs) : Ap (strings_ContainsFunc.fc fu a0) (strings_ContainsFunc.f a0) := by
  unfold strings_ContainsFunc.fc strings_ContainsFunc.f
  repeat' with_reducible first | exact strings_IndexFunc.f_ap _ _ | refine Ap.bind ?_ fun _ => ?_ | exact Ap.refl _
def lts_name.fc (fu : Nat) (a0 : Bs) : Option Bool :=
 jn (
 if (a0.length : Int) < 1 then
 some (.inl true)
 else
 some (.inl (decide (8 < (a0.length : Int))))) (fun (x452 : Bool) =>
 jn (
 if x452 = true then
 some (.inl true)
 else
 if (0 : Int) ≤ 0 ∧ 0 < (a0.length : Int) then
 some (.inl (decide (bat a0 0 < 97)))
 else none) (fun (x657 : Bool) =>
 jn (
 if x657 = true then
 some (.inl true)
 else
 if (0 : Int) ≤ 0 ∧ 0 < (a0.length : Int) then
 some (.inl (decide (122 < bat a0 0)))
 else none) (fun (x862 : Bool) =>
 if x862 = true then
 some false
 else
 if bseqC a0 ([116, 116] : Bs) = true then
 some false
 else
 if bseqC a0 ([102, 102] : Bs) = true then
 some false
 else
 if bseqC a0 ([109, 117] : Bs) = true then
 some false
 else
 if bseqC a0 ([110, 117] : Bs) = true then
 some false
 else
 (strings_ContainsFunc.fc fu a0).bind fun t875 =>
 some (!t875))))
theorem lts_name.f_ap (fu : Nat) (a0 : Bs) : Ap (lts_name.fc fu a0) (lts_name.f a0) := by
  unfold lts_name.fc lts_name.f
  rw [bseq_bseqC]
  repeat' with_reducible first | exact strings_ContainsFunc.f_ap _ _ | exact Ap.none | refine Ap.jn ?_ fun _ => ?_ | refine Ap.ite ?_ ?_ | refine Ap.bind ?_ fun _ => ?_ | exact Ap.refl _
def cmp_isNaN_int.fc (fu : Nat) (a0 : Int) : Option Bool :=
 some (!(decide (a0 = a0)))
theorem cmp_isNaN_int.f_ap (fu : Nat) (a0 : Int) : Ap (cmp_isNaN_int.fc fu a0) (cmp_isNaN_int.f a0) := by
  unfold cmp_isNaN_int.fc cmp_isNaN_int.f
  repeat' with_reducible first | exact Ap.refl _
def cmp_Compare_int.fc (fu : Nat) (a0 : Int) (a1 : Int) : Option Int :=
 (cmp_isNaN_int.fc fu a0).bind fun t252 =>
 (cmp_isNaN_int.fc fu a1).bind fun t254 =>
 if t252 = true then
 if t254 = true then
 some 0
 else
 some (-1)
 else
 if t254 = true then
 some 1
 else
 if a0 < a1 then
 some (-1)
 else
 if a1 < a0 then
 some 1
 else
 some 0
theorem cmp_Compare_int.f_ap (fu : Nat) (a0 : Int) (a1 : Int) : Ap (cmp_Compare_int.fc fu a0 a1) (cmp_Compare_int.f a0 a1) := by
  unfold cmp_Compare_int.fc cmp_Compare_int.f
  repeat' with_reducible first | exact cmp_isNaN_int.f_ap _ _ | refine Ap.ite ?_ ?_ | refine Ap.bind ?_ fun _ => ?_ | exact Ap.refl _
def lts_rises_int.l0bc (fu : Nat) (a0 : List Int) (x853 : Int) : Option ((Int) ⊕ ((Unit) ⊕ (Bool))) :=
 if x853 < (a0.length : Int) then
 if (0 : Int) ≤ IntKind.i64.wrap (x853 - 1) ∧ IntKind.i64.wrap (x853 - 1) < (a0.length : Int) then
 if (0 : Int) ≤ x853 ∧ x853 < (a0.length : Int) then
 (cmp_Compare_int.fc fu (gt a0 (IntKind.i64.wrap (x853 - 1))) (gt a0 x853)).bind fun t1068 =>
 if 0 ≤ t1068 then
 upL (some false)
 else
 nx (IntKind.i64.wrap (x853 + 1))
 else none
 else none
 else
 dn (.inl ())
theorem lts_rises_int.l0b_ap (fu : Nat) (a0 : List Int) (x853 : Int) : Ap (lts_rises_int.l0bc fu a0 x853) (lts_rises_int.l0b a0 x853) := by
  unfold lts_rises_int.l0bc lts_rises_int.l0b
  repeat' with_reducible first | exact cmp_Compare_int.f_ap _ _ _ | exact Ap.none | refine Ap.ite ?_ ?_ | refine Ap.upL ?_ | refine Ap.bind ?_ fun _ => ?_ | exact Ap.refl _
def lts_rises_int.l0c (fu : Nat) (a0 : List Int) (x853 : Int) : Option ((Unit) ⊕ (Bool)) := iterC fu (fun t_ : Int => lts_rises_int.l0bc fu a0 t_) x853
theorem lts_rises_int.l0_ap (fu : Nat) (a0 : List Int) (x853 : Int) : Ap (lts_rises_int.l0c fu a0 x853) (lts_rises_int.l0 a0 x853) := by
  unfold lts_rises_int.l0c lts_rises_int.l0
  repeat' with_reducible first | exact lts_rises_int.l0b_ap _ _ _ | refine Ap.iter fun _ => ?_ | exact Ap.refl _
def lts_rises_int.fc (fu : Nat) (a0 : List Int) : Option Bool :=
 jn (lts_rises_int.l0c fu a0 1) (fun (_ : Unit) =>
 some true)
theorem lts_rises_int.f_ap (fu : Nat) (a0 : List Int) : Ap (lts_rises_int.fc fu a0) (lts_rises_int.f a0) := by
  unfold lts_rises_int.fc lts_rises_int.f
  repeat' with_reducible first | exact lts_rises_int.l0_ap _ _ _ | refine Ap.jn ?_ fun _ => ?_ | exact Ap.refl _
def lts_Right_2.fc (fu : Nat) (a0 : Int) (a1_0_c0_0 : Int) (a1_0_c0_1 : List Bs) (a1_0_c0_2 : List api_Edge) (a1_0_c0_3 : List api_Prop) : Option Bool :=
 (lts_Right_1.fc fu a0 a1_0_c0_0 a1_0_c0_1 a1_0_c0_2 a1_0_c0_3).bind fun t252 =>
 some (!t252)
theorem lts_Right_2.f_ap (fu : Nat) (a0 : Int) (a1_0_c0_0 : Int) (a1_0_c0_1 : List Bs) (a1_0_c0_2 : List api_Edge) (a1_0_c0_3 : List api_Prop) : Ap (lts_Right_2.fc fu a0 a1_0_c0_0 a1_0_c0_1 a1_0_c0_2 a1_0_c0_3) (lts_Right_2.f a0 a1_0_c0_0 a1_0_c0_1 a1_0_c0_2 a1_0_c0_3) := by
  unfold lts_Right_2.fc lts_Right_2.f
  repeat' with_reducible first | exact lts_Right_1.f_ap _ _ _ _ _ _ | refine Ap.bind ?_ fun _ => ?_ | exact Ap.refl _
def slices_IndexFunc_int_int.l0bc (fu : Nat) (a0 : List Int) (a1_c0_0_c0_0 : Int) (a1_c0_0_c0_1 : List Bs) (a1_c0_0_c0_2 : List api_Edge) (a1_c0_0_c0_3 : List api_Prop) (x853 : Int) : Option ((Int) ⊕ ((Unit) ⊕ (Int))) :=
 if x853 < (a0.length : Int) then
 if (0 : Int) ≤ x853 ∧ x853 < (a0.length : Int) then
 (lts_Right_2.fc fu (gt a0 x853) a1_c0_0_c0_0 a1_c0_0_c0_1 a1_c0_0_c0_2 a1_c0_0_c0_3).bind fun t1067 =>
 if t1067 = true then
 upL (some x853)
 else
 nx (IntKind.i64.wrap (x853 + 1))
 else none
 else
 dn (.inl ())
theorem slices_IndexFunc_int_int.l0b_ap (fu : Nat) (a0 : List Int) (a1_c0_0_c0_0 : Int) (a1_c0_0_c0_1 : List Bs) (a1_c0_0_c0_2 : List api_Edge) (a1_c0_0_c0_3 : List api_Prop) (x853 : Int) : Ap (slices_IndexFunc_int_int.l0bc fu a0 a1_c0_0_c0_0 a1_c0_0_c0_1 a1_c0_0_c0_2 a1_c0_0_c0_3 x853) (slices_IndexFunc_int_int.l0b a0 a1_c0_0_c0_0 a1_c0_0_c0_1 a1_c0_0_c0_2 a1_c0_0_c0_3 x853) := by
  unfold slices_IndexFunc_int_int.l0bc slices_IndexFunc_int_int.l0b
  repeat' with_reducible first | exact lts_Right_2.f_ap _ _ _ _ _ _ | exact Ap.none | refine Ap.ite ?_ ?_ | refine Ap.upL ?_ | refine Ap.bind ?_ fun _ => ?_ | exact Ap.refl _
def slices_IndexFunc_int_int.l0c (fu : Nat) (a0 : List Int) (a1_c0_0_c0_0 : Int) (a1_c0_0_c0_1 : List Bs) (a1_c0_0_c0_2 : List api_Edge) (a1_c0_0_c0_3 : List api_Prop) (x853 : Int) : Option ((Unit) ⊕ (Int)) := iterC fu (fun t_ : Int => slices_IndexFunc_int_int.l0bc fu a0 a1_c0_0_c0_0 a1_c0_0_c0_1 a1_c0_0_c0_2 a1_c0_0_c0_3 t_) x853
theorem slices_IndexFunc_int_int.l0_ap (fu : Nat) (a0 : List Int) (a1_c0_0_c0_0 : Int) (a1_c0_0_c0_1 : List Bs) (a1_c0_0_c0_2 : List api_Edge) (a1_c0_0_c0_3 : List api_Prop) (x853 : Int) : Ap (slices_IndexFunc_int_int.l0c fu a0 a1_c0_0_c0_0 a1_c0_0_c0_1 a1_c0_0_c0_2 a1_c0_0_c0_3 x853) (slices_IndexFunc_int_int.l0 a0 a1_c0_0_c0_0 a1_c0_0_c0_1 a1_c0_0_c0_2 a1_c0_0_c0_3 x853) := by
  unfold slices_IndexFunc_int_int.l0c slices_IndexFunc_int_int.l0
  repeat' with_reducible first | exact slices_IndexFunc_int_int.l0b_ap _ _ _ _ _ _ _ | refine Ap.iter fun _ => ?_ | exact Ap.refl _
def slices_IndexFunc_int_int.fc (fu : Nat) (a0 : List Int) (a1_c0_0_c0_0 : Int) (a1_c0_0_c0_1 : List Bs) (a1_c0_0_c0_2 : List api_Edge) (a1_c0_0_c0_3 : List api_Prop) : Option Int :=
 jn (slices_IndexFunc_int_int.l0c fu a0 a1_c0_0_c0_0 a1_c0_0_c0_1 a1_c0_0_c0_2 a1_c0_0_c0_3 0) (fun (_ : Unit) =>
 some (-1))
theorem slices_IndexFunc_int_int.f_ap (fu : Nat) (a0 : List Int) (a1_c0_0_c0_0 : Int) (a1_c0_0_c0_1 : List Bs) (a1_c0_0_c0_2 : List api_Edge) (a1_c0_0_c0_3 : List api_Prop) : Ap (slices_IndexFunc_int_int.fc fu a0 a1_c0_0_c0_0 a1_c0_0_c0_1 a1_c0_0_c0_2 a1_c0_0_c0_3) (slices_IndexFunc_int_int.f a0 a1_c0_0_c0_0 a1_c0_0_c0_1 a1_c0_0_c0_2 a1_c0_0_c0_3) := by
  unfold slices_IndexFunc_int_int.fc slices_IndexFunc_int_int.f
  repeat' with_reducible first | exact slices_IndexFunc_int_int.l0_ap _ _ _ _ _ _ _ | refine Ap.jn ?_ fun _ => ?_ | exact Ap.refl _
def slices_ContainsFunc_int_int.fc (fu : Nat) (a0 : List Int) (a1_c0_0_c0_0 : Int) (a1_c0_0_c0_1 : List Bs) (a1_c0_0_c0_2 : List api_Edge) (a1_c0_0_c0_3 : List api_Prop) : Option Bool :=
 (slices_IndexFunc_int_int.fc fu a0 a1_c0_0_c0_0 a1_c0_0_c0_1 a1_c0_0_c0_2 a1_c0_0_c0_3).bind fun t252 =>
 some (decide (0 ≤ t252))
theorem slices_ContainsFunc_int_int.f_ap (fu : Nat) (a0 : List Int) (a1_c0_0_c0_0 : Int) (a1_c0_0_c0_1 : List Bs) (a1_c0_0_c0_2 : List api_Edge) (a1_c0_0_c0_3 : List api_Prop) : Ap (slices_ContainsFunc_int_int.fc fu a0 a1_c0_0_c0_0 a1_c0_0_c0_1 a1_c0_0_c0_2 a1_c0_0_c0_3) (slices_ContainsFunc_int_int.f a0 a1_c0_0_c0_0 a1_c0_0_c0_1 a1_c0_0_c0_2 a1_c0_0_c0_3) := by
  unfold slices_ContainsFunc_int_int.fc slices_ContainsFunc_int_int.f
  repeat' with_reducible first | exact slices_IndexFunc_int_int.f_ap _ _ _ _ _ _ | refine Ap.bind ?_ fun _ => ?_ | exact Ap.refl _
def lts_Right_3.fc (fu : Nat) (a0 : Bs) : Option Bool :=
 (lts_name.fc fu a0).bind fun t252 =>
 some (!t252)
theorem lts_Right_3.f_ap (fu : Nat) (a0 : Bs) : Ap (lts_Right_3.fc fu a0) (lts_Right_3.f a0) := by
  unfold lts_Right_3.fc lts_Right_3.f
  repeat' with_reducible first | exact lts_name.f_ap _ _ | refine Ap.bind ?_ fun _ => ?_ | exact Ap.refl _
def slices_IndexFunc_string_string.l0bc (fu : Nat) (a0 : List Bs) (x853 : Int) : Option ((Int) ⊕ ((Unit) ⊕ (Int))) :=
 if x853 < (a0.length : Int) then
 if (0 : Int) ≤ x853 ∧ x853 < (a0.length : Int) then
 (lts_Right_3.fc fu (gt a0 x853)).bind fun t1067 =>
 if t1067 = true then
 upL (some x853)
 else
 nx (IntKind.i64.wrap (x853 + 1))
 else none
 else
 dn (.inl ())
theorem slices_IndexFunc_string_string.l0b_ap (fu : Nat) (a0 : List Bs) (x853 : Int) : Ap (slices_IndexFunc_string_string.l0bc fu a0 x853) (slices_IndexFunc_string_string.l0b a0 x853) := by
  unfold slices_IndexFunc_string_string.l0bc slices_IndexFunc_string_string.l0b
  repeat' with_reducible first | exact lts_Right_3.f_ap _ _ | exact Ap.none | refine Ap.ite ?_ ?_ | refine Ap.upL ?_ | refine Ap.bind ?_ fun _ => ?_ | exact Ap.refl _
def slices_IndexFunc_string_string.l0c (fu : Nat) (a0 : List Bs) (x853 : Int) : Option ((Unit) ⊕ (Int)) := iterC fu (fun t_ : Int => slices_IndexFunc_string_string.l0bc fu a0 t_) x853
theorem slices_IndexFunc_string_string.l0_ap (fu : Nat) (a0 : List Bs) (x853 : Int) : Ap (slices_IndexFunc_string_string.l0c fu a0 x853) (slices_IndexFunc_string_string.l0 a0 x853) := by
  unfold slices_IndexFunc_string_string.l0c slices_IndexFunc_string_string.l0
  repeat' with_reducible first | exact slices_IndexFunc_string_string.l0b_ap _ _ _ | refine Ap.iter fun _ => ?_ | exact Ap.refl _
def slices_IndexFunc_string_string.fc (fu : Nat) (a0 : List Bs) : Option Int :=
 jn (slices_IndexFunc_string_string.l0c fu a0 0) (fun (_ : Unit) =>
 some (-1))
theorem slices_IndexFunc_string_string.f_ap (fu : Nat) (a0 : List Bs) : Ap (slices_IndexFunc_string_string.fc fu a0) (slices_IndexFunc_string_string.f a0) := by
  unfold slices_IndexFunc_string_string.fc slices_IndexFunc_string_string.f
  repeat' with_reducible first | exact slices_IndexFunc_string_string.l0_ap _ _ _ | refine Ap.jn ?_ fun _ => ?_ | exact Ap.refl _
def slices_ContainsFunc_string_string.fc (fu : Nat) (a0 : List Bs) : Option Bool :=
 (slices_IndexFunc_string_string.fc fu a0).bind fun t252 =>
 some (decide (0 ≤ t252))
theorem slices_ContainsFunc_string_string.f_ap (fu : Nat) (a0 : List Bs) : Ap (slices_ContainsFunc_string_string.fc fu a0) (slices_ContainsFunc_string_string.f a0) := by
  unfold slices_ContainsFunc_string_string.fc slices_ContainsFunc_string_string.f
  repeat' with_reducible first | exact slices_IndexFunc_string_string.f_ap _ _ | refine Ap.bind ?_ fun _ => ?_ | exact Ap.refl _
def cmp_Or_int.l0bc (fu : Nat) (a0 : List Int) (x853 : Int) : Option ((Int) ⊕ ((Unit) ⊕ (Int))) :=
 if x853 < (a0.length : Int) then
 if (0 : Int) ≤ x853 ∧ x853 < (a0.length : Int) then
 if gt a0 x853 = 0 then
 nx (IntKind.i64.wrap (x853 + 1))
 else
 upL (some (gt a0 x853))
 else none
 else
 dn (.inl ())
theorem cmp_Or_int.l0b_ap (fu : Nat) (a0 : List Int) (x853 : Int) : Ap (cmp_Or_int.l0bc fu a0 x853) (cmp_Or_int.l0b a0 x853) := by
  unfold cmp_Or_int.l0bc cmp_Or_int.l0b
  repeat' with_reducible first | exact Ap.none | refine Ap.ite ?_ ?_ | refine Ap.upL ?_ | exact Ap.refl _
def cmp_Or_int.l0c (fu : Nat) (a0 : List Int) (x853 : Int) : Option ((Unit) ⊕ (Int)) := iterC fu (fun t_ : Int => cmp_Or_int.l0bc fu a0 t_) x853
theorem cmp_Or_int.l0_ap (fu : Nat) (a0 : List Int) (x853 : Int) : Ap (cmp_Or_int.l0c fu a0 x853) (cmp_Or_int.l0 a0 x853) := by
  unfold cmp_Or_int.l0c cmp_Or_int.l0
  repeat' with_reducible first | exact cmp_Or_int.l0b_ap _ _ _ | refine Ap.iter fun _ => ?_ | exact Ap.refl _
def cmp_Or_int.fc (fu : Nat) (a0 : List Int) : Option Int :=
 jn (cmp_Or_int.l0c fu a0 0) (fun (_ : Unit) =>
 some 0)
theorem cmp_Or_int.f_ap (fu : Nat) (a0 : List Int) : Ap (cmp_Or_int.fc fu a0) (cmp_Or_int.f a0) := by
  unfold cmp_Or_int.fc cmp_Or_int.f
  repeat' with_reducible first | exact cmp_Or_int.l0_ap _ _ _ | refine Ap.jn ?_ fun _ => ?_ | exact Ap.refl _
def lts_compare.fc (fu : Nat) (a0_0 : Int) (a0_1 : Int) (a0_2 : Int) (a1_0 : Int) (a1_1 : Int) (a1_2 : Int) : Option Int :=
 (cmp_Compare_int.fc fu a0_0 a1_0).bind fun t269 =>
 (cmp_Compare_int.fc fu a0_1 a1_1).bind fun t271 =>
 (cmp_Compare_int.fc fu a0_2 a1_2).bind fun t273 =>
 (cmp_Or_int.fc fu ([t269, t271, t273] : List Int)).bind fun t284 =>
 some t284
theorem lts_compare.f_ap (fu : Nat) (a0_0 : Int) (a0_1 : Int) (a0_2 : Int) (a1_0 : Int) (a1_1 : Int) (a1_2 : Int) : Ap (lts_compare.fc fu a0_0 a0_1 a0_2 a1_0 a1_1 a1_2) (lts_compare.f a0_0 a0_1 a0_2 a1_0 a1_1 a1_2) := by
  unfold lts_compare.fc lts_compare.f
  repeat' with_reducible first | exact cmp_Compare_int.f_ap _ _ _ | exact cmp_Or_int.f_ap _ _ | refine Ap.bind ?_ fun _ => ?_ | exact Ap.refl _
def lts_rises_api_Edge.l0bc (fu : Nat) (a0 : List api_Edge) (x853 : Int) : Option ((Int) ⊕ ((Unit) ⊕ (Bool))) :=
 if x853 < (a0.length : Int) then
 if (0 : Int) ≤ IntKind.i64.wrap (x853 - 1) ∧ IntKind.i64.wrap (x853 - 1) < (a0.length : Int) then
 if (0 : Int) ≤ x853 ∧ x853 < (a0.length : Int) then
 (lts_compare.fc fu ((gt a0 (IntKind.i64.wrap (x853 - 1))).From) ((gt a0 (IntKind.i64.wrap (x853 - 1))).Action) ((gt a0 (IntKind.i64.wrap (x853 - 1))).To) ((gt a0 x853).From) ((gt a0 x853).Action) ((gt a0 x853).To)).bind fun t1068 =>
 if 0 ≤ t1068 then
 upL (some false)
 else
 nx (IntKind.i64.wrap (x853 + 1))
 else none
 else none
 else
 dn (.inl ())
theorem lts_rises_api_Edge.l0b_ap (fu : Nat) (a0 : List api_Edge) (x853 : Int) : Ap (lts_rises_api_Edge.l0bc fu a0 x853) (lts_rises_api_Edge.l0b a0 x853) := by
  unfold lts_rises_api_Edge.l0bc lts_rises_api_Edge.l0b
  repeat' with_reducible first | exact lts_compare.f_ap _ _ _ _ _ _ _ | exact Ap.none | refine Ap.ite ?_ ?_ | refine Ap.upL ?_ | refine Ap.bind ?_ fun _ => ?_ | exact Ap.refl _
def lts_rises_api_Edge.l0c (fu : Nat) (a0 : List api_Edge) (x853 : Int) : Option ((Unit) ⊕ (Bool)) := iterC fu (fun t_ : Int => lts_rises_api_Edge.l0bc fu a0 t_) x853
theorem lts_rises_api_Edge.l0_ap (fu : Nat) (a0 : List api_Edge) (x853 : Int) : Ap (lts_rises_api_Edge.l0c fu a0 x853) (lts_rises_api_Edge.l0 a0 x853) := by
  unfold lts_rises_api_Edge.l0c lts_rises_api_Edge.l0
  repeat' with_reducible first | exact lts_rises_api_Edge.l0b_ap _ _ _ | refine Ap.iter fun _ => ?_ | exact Ap.refl _
def lts_rises_api_Edge.fc (fu : Nat) (a0 : List api_Edge) : Option Bool :=
 jn (lts_rises_api_Edge.l0c fu a0 1) (fun (_ : Unit) =>
 some true)
theorem lts_rises_api_Edge.f_ap (fu : Nat) (a0 : List api_Edge) : Ap (lts_rises_api_Edge.fc fu a0) (lts_rises_api_Edge.f a0) := by
  unfold lts_rises_api_Edge.fc lts_rises_api_Edge.f
  repeat' with_reducible first | exact lts_rises_api_Edge.l0_ap _ _ _ | refine Ap.jn ?_ fun _ => ?_ | exact Ap.refl _
def bytealg_CompareString.fc (fu : Nat) (a0 : Bs) (a1 : Bs) : Option Int :=
 some (Lib.compareBytes a0 a1)
theorem bytealg_CompareString.f_ap (fu : Nat) (a0 : Bs) (a1 : Bs) : Ap (bytealg_CompareString.fc fu a0 a1) (bytealg_CompareString.f a0 a1) := by
  unfold bytealg_CompareString.fc bytealg_CompareString.f
  repeat' with_reducible first | exact Ap.refl _
def strings_Compare.fc (fu : Nat) (a0 : Bs) (a1 : Bs) : Option Int :=
 (bytealg_CompareString.fc fu a0 a1).bind fun t252 =>
 some t252
theorem strings_Compare.f_ap (fu : Nat) (a0 : Bs) (a1 : Bs) : Ap (strings_Compare.fc fu a0 a1) (strings_Compare.f a0 a1) := by
  unfold strings_Compare.fc strings_Compare.f
  repeat' with_reducible first | exact bytealg_CompareString.f_ap _ _ _ | refine Ap.bind ?_ fun _ => ?_ | exact Ap.refl _
def lts_rises_string.l0bc (fu : Nat) (a0 : List Bs) (x853 : Int) : Option ((Int) ⊕ ((Unit) ⊕ (Bool))) :=
 if x853 < (a0.length : Int) then
 if (0 : Int) ≤ IntKind.i64.wrap (x853 - 1) ∧ IntKind.i64.wrap (x853 - 1) < (a0.length : Int) then
 if (0 : Int) ≤ x853 ∧ x853 < (a0.length : Int) then
 (strings_Compare.fc fu (gt a0 (IntKind.i64.wrap (x853 - 1))) (gt a0 x853)).bind fun t1068 =>
 if 0 ≤ t1068 then
 upL (some false)
 else
 nx (IntKind.i64.wrap (x853 + 1))
 else none
 else none
 else
 dn (.inl ())
theorem lts_rises_string.l0b_ap (fu : Nat) (a0 : List Bs) (x853 : Int) : Ap (lts_rises_string.l0bc fu a0 x853) (lts_rises_string.l0b a0 x853) := by
  unfold lts_rises_string.l0bc lts_rises_string.l0b
  repeat' with_reducible first | exact strings_Compare.f_ap _ _ _ | exact Ap.none | refine Ap.ite ?_ ?_ | refine Ap.upL ?_ | refine Ap.bind ?_ fun _ => ?_ | exact Ap.refl _
def lts_rises_string.l0c (fu : Nat) (a0 : List Bs) (x853 : Int) : Option ((Unit) ⊕ (Bool)) := iterC fu (fun t_ : Int => lts_rises_string.l0bc fu a0 t_) x853
theorem lts_rises_string.l0_ap (fu : Nat) (a0 : List Bs) (x853 : Int) : Ap (lts_rises_string.l0c fu a0 x853) (lts_rises_string.l0 a0 x853) := by
  unfold lts_rises_string.l0c lts_rises_string.l0
  repeat' with_reducible first | exact lts_rises_string.l0b_ap _ _ _ | refine Ap.iter fun _ => ?_ | exact Ap.refl _
def lts_rises_string.fc (fu : Nat) (a0 : List Bs) : Option Bool :=
 jn (lts_rises_string.l0c fu a0 1) (fun (_ : Unit) =>
 some true)
theorem lts_rises_string.f_ap (fu : Nat) (a0 : List Bs) : Ap (lts_rises_string.fc fu a0) (lts_rises_string.f a0) := by
  unfold lts_rises_string.fc lts_rises_string.f
  repeat' with_reducible first | exact lts_rises_string.l0_ap _ _ _ | refine Ap.jn ?_ fun _ => ?_ | exact Ap.refl _
def lts_byName.fc (fu : Nat) (a0_0 : Bs) (a0_1 : List Int) (a1_0 : Bs) (a1_1 : List Int) : Option Int :=
 (strings_Compare.fc fu a0_0 a1_0).bind fun t256 =>
 some t256
theorem lts_byName.f_ap (fu : Nat) (a0_0 : Bs) (a0_1 : List Int) (a1_0 : Bs) (a1_1 : List Int) : Ap (lts_byName.fc fu a0_0 a0_1 a1_0 a1_1) (lts_byName.f a0_0 a0_1 a1_0 a1_1) := by
  unfold lts_byName.fc lts_byName.f
  repeat' with_reducible first | exact strings_Compare.f_ap _ _ _ | refine Ap.bind ?_ fun _ => ?_ | exact Ap.refl _
def lts_rises_api_Prop.l0bc (fu : Nat) (a0 : List api_Prop) (x853 : Int) : Option ((Int) ⊕ ((Unit) ⊕ (Bool))) :=
 if x853 < (a0.length : Int) then
 if (0 : Int) ≤ IntKind.i64.wrap (x853 - 1) ∧ IntKind.i64.wrap (x853 - 1) < (a0.length : Int) then
 if (0 : Int) ≤ x853 ∧ x853 < (a0.length : Int) then
 (lts_byName.fc fu ((gt a0 (IntKind.i64.wrap (x853 - 1))).Name) ((gt a0 (IntKind.i64.wrap (x853 - 1))).States) ((gt a0 x853).Name) ((gt a0 x853).States)).bind fun t1082 =>
 if 0 ≤ t1082 then
 upL (some false)
 else
 nx (IntKind.i64.wrap (x853 + 1))
 else none
 else none
 else
 dn (.inl ())
theorem lts_rises_api_Prop.l0b_ap (fu : Nat) (a0 : List api_Prop) (x853 : Int) : Ap (lts_rises_api_Prop.l0bc fu a0 x853) (lts_rises_api_Prop.l0b a0 x853) := by
  unfold lts_rises_api_Prop.l0bc lts_rises_api_Prop.l0b
  repeat' with_reducible first | exact lts_byName.f_ap _ _ _ _ _ | exact Ap.none | refine Ap.ite ?_ ?_ | refine Ap.upL ?_ | refine Ap.bind ?_ fun _ => ?_ | exact Ap.refl _
def lts_rises_api_Prop.l0c (fu : Nat) (a0 : List api_Prop) (x853 : Int) : Option ((Unit) ⊕ (Bool)) := iterC fu (fun t_ : Int => lts_rises_api_Prop.l0bc fu a0 t_) x853
theorem lts_rises_api_Prop.l0_ap (fu : Nat) (a0 : List api_Prop) (x853 : Int) : Ap (lts_rises_api_Prop.l0c fu a0 x853) (lts_rises_api_Prop.l0 a0 x853) := by
  unfold lts_rises_api_Prop.l0c lts_rises_api_Prop.l0
  repeat' with_reducible first | exact lts_rises_api_Prop.l0b_ap _ _ _ | refine Ap.iter fun _ => ?_ | exact Ap.refl _
def lts_rises_api_Prop.fc (fu : Nat) (a0 : List api_Prop) : Option Bool :=
 jn (lts_rises_api_Prop.l0c fu a0 1) (fun (_ : Unit) =>
 some true)
theorem lts_rises_api_Prop.f_ap (fu : Nat) (a0 : List api_Prop) : Ap (lts_rises_api_Prop.fc fu a0) (lts_rises_api_Prop.f a0) := by
  unfold lts_rises_api_Prop.fc lts_rises_api_Prop.f
  repeat' with_reducible first | exact lts_rises_api_Prop.l0_ap _ _ _ | refine Ap.jn ?_ fun _ => ?_ | exact Ap.refl _
def lts_Right.l1bc (fu : Nat) (a0_0 : Int) (a0_1 : List Bs) (a0_2 : List api_Edge) (a0_3 : List api_Prop) (x2493 : Int) : Option ((Int) ⊕ ((Unit) ⊕ (Bool))) :=
 if x2493 < (a0_3.length : Int) then
 if (0 : Int) ≤ x2493 ∧ x2493 < (a0_3.length : Int) then
 (lts_name.fc fu ((gt a0_3 x2493).Name)).bind fun t3343 =>
 jn (
 if t3343 = true then
 (lts_rises_int.fc fu ((gt a0_3 x2493).States)).bind fun t3760 =>
 some (.inl (!t3760))
 else
 some (.inl true)) (fun (x3545 : Bool) =>
 jn (
 if x3545 = true then
 some (.inl true)
 else
 (slices_ContainsFunc_int_int.fc fu ((gt a0_3 x2493).States) a0_0 a0_1 a0_2 a0_3).bind fun t3757 =>
 some (.inl t3757)) (fun (x3750 : Bool) =>
 if x3750 = true then
 upL (some false)
 else
 nx (IntKind.i64.wrap (x2493 + 1))))
 else none
 else
 dn (.inl ())
theorem lts_Right.l1b_ap (fu : Nat) (a0_0 : Int) (a0_1 : List Bs) (a0_2 : List api_Edge) (a0_3 : List api_Prop) (x2493 : Int) : Ap (lts_Right.l1bc fu a0_0 a0_1 a0_2 a0_3 x2493) (lts_Right.l1b a0_0 a0_1 a0_2 a0_3 x2493) := by
  unfold lts_Right.l1bc lts_Right.l1b
  repeat' with_reducible first | exact lts_name.f_ap _ _ | exact lts_rises_int.f_ap _ _ | exact slices_ContainsFunc_int_int.f_ap _ _ _ _ _ _ | exact Ap.none | refine Ap.jn ?_ fun _ => ?_ | refine Ap.ite ?_ ?_ | refine Ap.upL ?_ | refine Ap.bind ?_ fun _ => ?_ | exact Ap.refl _
def lts_Right.l1c (fu : Nat) (a0_0 : Int) (a0_1 : List Bs) (a0_2 : List api_Edge) (a0_3 : List api_Prop) (x2493 : Int) : Option ((Unit) ⊕ (Bool)) := iterC fu (fun t_ : Int => lts_Right.l1bc fu a0_0 a0_1 a0_2 a0_3 t_) x2493
theorem lts_Right.l1_ap (fu : Nat) (a0_0 : Int) (a0_1 : List Bs) (a0_2 : List api_Edge) (a0_3 : List api_Prop) (x2493 : Int) : Ap (lts_Right.l1c fu a0_0 a0_1 a0_2 a0_3 x2493) (lts_Right.l1 a0_0 a0_1 a0_2 a0_3 x2493) := by
  unfold lts_Right.l1c lts_Right.l1
  repeat' with_reducible first | exact lts_Right.l1b_ap _ _ _ _ _ _ | refine Ap.iter fun _ => ?_ | exact Ap.refl _
def lts_Right.l0bc (fu : Nat) (a0_0 : Int) (a0_1 : List Bs) (a0_2 : List api_Edge) (a0_3 : List api_Prop) (x1678 : Int) (x1679 : Int) : Option ((Int × Int) ⊕ ((Int) ⊕ (Bool))) :=
 if x1679 < (a0_2.length : Int) then
 if (0 : Int) ≤ x1679 ∧ x1679 < (a0_2.length : Int) then
 (lts_Right_1.fc fu ((gt a0_2 x1679).From) a0_0 a0_1 a0_2 a0_3).bind fun t3765 =>
 jn (
 if t3765 = true then
 (lts_Right_1.fc fu ((gt a0_2 x1679).To) a0_0 a0_1 a0_2 a0_3).bind fun t4387 =>
 some (.inl (!t4387))
 else
 some (.inl true)) (fun (x3967 : Bool) =>
 jn (
 if x3967 = true then
 some (.inl true)
 else
 some (.inl (decide ((gt a0_2 x1679).Action < 0)))) (fun (x4172 : Bool) =>
 jn (
 if x4172 = true then
 some (.inl true)
 else
 some (.inl (decide ((a0_1.length : Int) ≤ (gt a0_2 x1679).Action)))) (fun (x4377 : Bool) =>
 if x4377 = true then
 upL (some false)
 else
 if (0 : Int) ≤ (gt a0_2 x1679).Action then
 nx (bor .u8 x1678 (Bw.shl .u8 1 ((gt a0_2 x1679).Action)), IntKind.i64.wrap (x1679 + 1))
 else none)))
 else none
 else
 dn (.inl x1678)
theorem lts_Right.l0b_ap (fu : Nat) (a0_0 : Int) (a0_1 : List Bs) (a0_2 : List api_Edge) (a0_3 : List api_Prop) (x1678 : Int) (x1679 : Int) : Ap (lts_Right.l0bc fu a0_0 a0_1 a0_2 a0_3 x1678 x1679) (lts_Right.l0b a0_0 a0_1 a0_2 a0_3 x1678 x1679) := by
  unfold lts_Right.l0bc lts_Right.l0b
  repeat' with_reducible first | exact lts_Right_1.f_ap _ _ _ _ _ _ | exact Ap.none | refine Ap.jn ?_ fun _ => ?_ | refine Ap.ite ?_ ?_ | refine Ap.upL ?_ | refine Ap.bind ?_ fun _ => ?_ | exact Ap.refl _
def lts_Right.l0c (fu : Nat) (a0_0 : Int) (a0_1 : List Bs) (a0_2 : List api_Edge) (a0_3 : List api_Prop) (x1678 : Int) (x1679 : Int) : Option ((Int) ⊕ (Bool)) := iterC fu (fun t_ : Int × Int => lts_Right.l0bc fu a0_0 a0_1 a0_2 a0_3 t_.1 t_.2) (x1678, x1679)
theorem lts_Right.l0_ap (fu : Nat) (a0_0 : Int) (a0_1 : List Bs) (a0_2 : List api_Edge) (a0_3 : List api_Prop) (x1678 : Int) (x1679 : Int) : Ap (lts_Right.l0c fu a0_0 a0_1 a0_2 a0_3 x1678 x1679) (lts_Right.l0 a0_0 a0_1 a0_2 a0_3 x1678 x1679) := by
  unfold lts_Right.l0c lts_Right.l0
  repeat' with_reducible first | exact lts_Right.l0b_ap _ _ _ _ _ _ _ | refine Ap.iter fun _ => ?_ | exact Ap.refl _
def lts_Right.fc (fu : Nat) (a0_0 : Int) (a0_1 : List Bs) (a0_2 : List api_Edge) (a0_3 : List api_Prop) : Option Bool :=
 jn (
 if a0_0 < 1 then
 some (.inl true)
 else
 some (.inl (decide (24 < a0_0)))) (fun (x454 : Bool) =>
 jn (
 if x454 = true then
 some (.inl true)
 else
 some (.inl (decide (8 < (a0_1.length : Int))))) (fun (x659 : Bool) =>
 jn (
 if x659 = true then
 some (.inl true)
 else
 some (.inl (decide (8 < (a0_3.length : Int))))) (fun (x864 : Bool) =>
 jn (
 if x864 = true then
 some (.inl true)
 else
 some (.inl (decide (200 < (a0_2.length : Int))))) (fun (x1069 : Bool) =>
 if x1069 = true then
 some false
 else
 jn (lts_Right.l0c fu a0_0 a0_1 a0_2 a0_3 0 0) (fun (x1880 : Int) =>
 jn (lts_Right.l1c fu a0_0 a0_1 a0_2 a0_3 0) (fun (_ : Unit) =>
 (slices_ContainsFunc_string_string.fc fu a0_1).bind fun t2705 =>
 jn (
 if t2705 = true then
 some (.inl true)
 else
 if (0 : Int) ≤ (a0_1.length : Int) then
 some (.inl (!(decide (x1880 = IntKind.u8.wrap ((Bw.shl .u8 1 (a0_1.length : Int)) - 1)))))
 else none) (fun (x2907 : Bool) =>
 if x2907 = true then
 some false
 else
 (lts_rises_api_Edge.fc fu a0_2).bind fun t2913 =>
 jn (
 if t2913 = true then
 (lts_rises_string.fc fu a0_1).bind fun t3329 =>
 some (.inl t3329)
 else
 some (.inl false)) (fun (x3115 : Bool) =>
 jn (
 if x3115 = true then
 (lts_rises_api_Prop.fc fu a0_3).bind fun t3326 =>
 some (.inl t3326)
 else
 some (.inl false)) (fun (x3320 : Bool) =>
 some x3320)))))))))
theorem lts_Right.f_ap (fu : Nat) (a0_0 : Int) (a0_1 : List Bs) (a0_2 : List api_Edge) (a0_3 : List api_Prop) : Ap (lts_Right.fc fu a0_0 a0_1 a0_2 a0_3) (lts_Right.f a0_0 a0_1 a0_2 a0_3) := by
  unfold lts_Right.fc lts_Right.f
  repeat' with_reducible first | exact lts_Right.l0_ap _ _ _ _ _ _ _ | exact lts_Right.l1_ap _ _ _ _ _ _ | exact slices_ContainsFunc_string_string.f_ap _ _ | exact lts_rises_api_Edge.f_ap _ _ | exact lts_rises_string.f_ap _ _ | exact lts_rises_api_Prop.f_ap _ _ | exact Ap.none | refine Ap.jn ?_ fun _ => ?_ | refine Ap.ite ?_ ?_ | refine Ap.bind ?_ fun _ => ?_ | exact Ap.refl _
def sets_Set_With.fc (fu : Nat) (a0_0 : Int) (a0_1 : Int) (a0_2 : Int) (a0_3 : Int) (a1 : Int) : Option (Int × Int × Int × Int) :=
 jn (
 if 0 ≤ a1 then
 some (.inl (decide (a1 < 256)))
 else
 some (.inl false)) (fun (x467 : Bool) =>
 if x467 = true then
 if (0 : Int) ≤ (Bw.shr .i64 a1 6) ∧ (Bw.shr .i64 a1 6) < (4 : Int) then
 if (Bw.shr .i64 a1 6) = 0 then
 if (0 : Int) ≤ IntKind.u64.wrap (band .i64 a1 63) then
 some (bor .u64 a0_0 (Bw.shl .u64 1 (IntKind.u64.wrap (band .i64 a1 63))), a0_1, a0_2, a0_3)
 else none
 else
 if (Bw.shr .i64 a1 6) = 1 then
 if (0 : Int) ≤ IntKind.u64.wrap (band .i64 a1 63) then
 some (a0_0, bor .u64 a0_1 (Bw.shl .u64 1 (IntKind.u64.wrap (band .i64 a1 63))), a0_2, a0_3)
 else none
 else
 if (Bw.shr .i64 a1 6) = 2 then
 if (0 : Int) ≤ IntKind.u64.wrap (band .i64 a1 63) then
 some (a0_0, a0_1, bor .u64 a0_2 (Bw.shl .u64 1 (IntKind.u64.wrap (band .i64 a1 63))), a0_3)
 else none
 else
 if (0 : Int) ≤ IntKind.u64.wrap (band .i64 a1 63) then
 some (a0_0, a0_1, a0_2, bor .u64 a0_3 (Bw.shl .u64 1 (IntKind.u64.wrap (band .i64 a1 63))))
 else none
 else none
 else
 some (a0_0, a0_1, a0_2, a0_3))
theorem sets_Set_With.f_ap (fu : Nat) (a0_0 : Int) (a0_1 : Int) (a0_2 : Int) (a0_3 : Int) (a1 : Int) : Ap (sets_Set_With.fc fu a0_0 a0_1 a0_2 a0_3 a1) (sets_Set_With.f a0_0 a0_1 a0_2 a0_3 a1) := by
  unfold sets_Set_With.fc sets_Set_With.f
  repeat' with_reducible first | exact Ap.none | refine Ap.jn ?_ fun _ => ?_ | refine Ap.ite ?_ ?_ | exact Ap.refl _
def sets_Of.l0bc (fu : Nat) (a0 : List Int) (x872 : Int) (x873 : Int) (x874 : Int) (x875 : Int) (x876 : Int) : Option ((Int × Int × Int × Int × Int) ⊕ ((Int × Int × Int × Int) ⊕ (Int × Int × Int × Int))) :=
 if x876 < (a0.length : Int) then
 if (0 : Int) ≤ x876 ∧ x876 < (a0.length : Int) then
 (sets_Set_With.fc fu x872 x873 x874 x875 (gt a0 x876)).bind fun t1094 =>
 nx (t1094.1, t1094.2.1, t1094.2.2.1, t1094.2.2.2, IntKind.i64.wrap (x876 + 1))
 else none
 else
 dn (.inl (x872, x873, x874, x875))
theorem sets_Of.l0b_ap (fu : Nat) (a0 : List Int) (x872 : Int) (x873 : Int) (x874 : Int) (x875 : Int) (x876 : Int) : Ap (sets_Of.l0bc fu a0 x872 x873 x874 x875 x876) (sets_Of.l0b a0 x872 x873 x874 x875 x876) := by
  unfold sets_Of.l0bc sets_Of.l0b
  repeat' with_reducible first | exact sets_Set_With.f_ap _ _ _ _ _ _ | exact Ap.none | refine Ap.ite ?_ ?_ | refine Ap.bind ?_ fun _ => ?_ | exact Ap.refl _
def sets_Of.l0c (fu : Nat) (a0 : List Int) (x872 : Int) (x873 : Int) (x874 : Int) (x875 : Int) (x876 : Int) : Option ((Int × Int × Int × Int) ⊕ (Int × Int × Int × Int)) := iterC fu (fun t_ : Int × Int × Int × Int × Int => sets_Of.l0bc fu a0 t_.1 t_.2.1 t_.2.2.1 t_.2.2.2.1 t_.2.2.2.2) (x872, x873, x874, x875, x876)
theorem sets_Of.l0_ap (fu : Nat) (a0 : List Int) (x872 : Int) (x873 : Int) (x874 : Int) (x875 : Int) (x876 : Int) : Ap (sets_Of.l0c fu a0 x872 x873 x874 x875 x876) (sets_Of.l0 a0 x872 x873 x874 x875 x876) := by
  unfold sets_Of.l0c sets_Of.l0
  repeat' with_reducible first | exact sets_Of.l0b_ap _ _ _ _ _ _ _ | refine Ap.iter fun _ => ?_ | exact Ap.refl _
def sets_Of.fc (fu : Nat) (a0 : List Int) : Option (Int × Int × Int × Int) :=
 jn (sets_Of.l0c fu a0 0 0 0 0 0) (fun (s_ : Int × Int × Int × Int) =>
 some (s_.1, s_.2.1, s_.2.2.1, s_.2.2.2))
theorem sets_Of.f_ap (fu : Nat) (a0 : List Int) : Ap (sets_Of.fc fu a0) (sets_Of.f a0) := by
  unfold sets_Of.fc sets_Of.f
  repeat' with_reducible first | exact sets_Of.l0_ap _ _ _ _ _ _ _ | refine Ap.jn ?_ fun _ => ?_ | exact Ap.refl _
def lts_New.l2bc (fu : Nat) (a0_1 : List Bs) (a0_2 : List api_Edge) (x1680 : Int) (x2502 : List (lts_edges × sets_Set)) (x2503 : Int) : Option (((List (lts_edges × sets_Set)) × Int) ⊕ (((List (lts_edges × sets_Set))) ⊕ (((List (lts_edges × sets_Set)) × Int) ⊕ (((List (lts_edges × sets_Set))) ⊕ ((Option lts_Table)))))) :=
 if x2503 < (([(gt a0_1 ((gt a0_2 x1680).Action)), ([45] : Bs)] : List Bs).length : Int) then
 if (0 : Int) ≤ x2503 ∧ x2503 < (([(gt a0_1 ((gt a0_2 x1680).Action)), ([45] : Bs)] : List Bs).length : Int) then
 (sets_Set_With.fc fu (((mget x2502 (⟨(gt a0_2 x1680).From, gt ([(gt a0_1 ((gt a0_2 x1680).Action)), ([45] : Bs)] : List Bs) x2503⟩ : lts_edges)).getD (⟨(0 : Int), (0 : Int), (0 : Int), (0 : Int)⟩ : sets_Set)).c0) (((mget x2502 (⟨(gt a0_2 x1680).From, gt ([(gt a0_1 ((gt a0_2 x1680).Action)), ([45] : Bs)] : List Bs) x2503⟩ : lts_edges)).getD (⟨(0 : Int), (0 : Int), (0 : Int), (0 : Int)⟩ : sets_Set)).c1) (((mget x2502 (⟨(gt a0_2 x1680).From, gt ([(gt a0_1 ((gt a0_2 x1680).Action)), ([45] : Bs)] : List Bs) x2503⟩ : lts_edges)).getD (⟨(0 : Int), (0 : Int), (0 : Int), (0 : Int)⟩ : sets_Set)).c2) (((mget x2502 (⟨(gt a0_2 x1680).From, gt ([(gt a0_1 ((gt a0_2 x1680).Action)), ([45] : Bs)] : List Bs) x2503⟩ : lts_edges)).getD (⟨(0 : Int), (0 : Int), (0 : Int), (0 : Int)⟩ : sets_Set)).c3) ((gt a0_2 x1680).To)).bind fun t2721 =>
 nx ((mset x2502 (⟨(gt a0_2 x1680).From, gt ([(gt a0_1 ((gt a0_2 x1680).Action)), ([45] : Bs)] : List Bs) x2503⟩ : lts_edges) (⟨t2721.1, t2721.2.1, t2721.2.2.1, t2721.2.2.2⟩ : sets_Set)), IntKind.i64.wrap (x2503 + 1))
 else none
 else
 dn (.inl x2502)
theorem lts_New.l2b_ap (fu : Nat) (a0_1 : List Bs) (a0_2 : List api_Edge) (x1680 : Int) (x2502 : List (lts_edges × sets_Set)) (x2503 : Int) : Ap (lts_New.l2bc fu a0_1 a0_2 x1680 x2502 x2503) (lts_New.l2b a0_1 a0_2 x1680 x2502 x2503) := by
  unfold lts_New.l2bc lts_New.l2b
  repeat' with_reducible first | exact sets_Set_With.f_ap _ _ _ _ _ _ | exact Ap.none | refine Ap.ite ?_ ?_ | refine Ap.bind ?_ fun _ => ?_ | exact Ap.refl _
def lts_New.l2c (fu : Nat) (a0_1 : List Bs) (a0_2 : List api_Edge) (x1680 : Int) (x2502 : List (lts_edges × sets_Set)) (x2503 : Int) : Option (((List (lts_edges × sets_Set))) ⊕ (((List (lts_edges × sets_Set)) × Int) ⊕ (((List (lts_edges × sets_Set))) ⊕ ((Option lts_Table))))) := iterC fu (fun t_ : (List (lts_edges × sets_Set)) × Int => lts_New.l2bc fu a0_1 a0_2 x1680 t_.1 t_.2) (x2502, x2503)
theorem lts_New.l2_ap (fu : Nat) (a0_1 : List Bs) (a0_2 : List api_Edge) (x1680 : Int) (x2502 : List (lts_edges × sets_Set)) (x2503 : Int) : Ap (lts_New.l2c fu a0_1 a0_2 x1680 x2502 x2503) (lts_New.l2 a0_1 a0_2 x1680 x2502 x2503) := by
  unfold lts_New.l2c lts_New.l2
  repeat' with_reducible first | exact lts_New.l2b_ap _ _ _ _ _ _ | refine Ap.iter fun _ => ?_ | exact Ap.refl _
def lts_New.l1bc (fu : Nat) (a0_1 : List Bs) (a0_2 : List api_Edge) (x1679 : List (lts_edges × sets_Set)) (x1680 : Int) : Option (((List (lts_edges × sets_Set)) × Int) ⊕ (((List (lts_edges × sets_Set))) ⊕ ((Option lts_Table)))) :=
 if x1680 < (a0_2.length : Int) then
 if (0 : Int) ≤ x1680 ∧ x1680 < (a0_2.length : Int) then
 if (0 : Int) ≤ (gt a0_2 x1680).Action ∧ (gt a0_2 x1680).Action < (a0_1.length : Int) then
 jn (lts_New.l2c fu a0_1 a0_2 x1680 x1679 0) (fun (x2704 : List (lts_edges × sets_Set)) =>
 nx (x2704, IntKind.i64.wrap (x1680 + 1)))
 else none
 else none
 else
 dn (.inl x1679)
theorem lts_New.l1b_ap (fu : Nat) (a0_1 : List Bs) (a0_2 : List api_Edge) (x1679 : List (lts_edges × sets_Set)) (x1680 : Int) : Ap (lts_New.l1bc fu a0_1 a0_2 x1679 x1680) (lts_New.l1b a0_1 a0_2 x1679 x1680) := by
  unfold lts_New.l1bc lts_New.l1b
  repeat' with_reducible first | exact lts_New.l2_ap _ _ _ _ _ _ | exact Ap.none | refine Ap.jn ?_ fun _ => ?_ | refine Ap.ite ?_ ?_ | exact Ap.refl _
def lts_New.l1c (fu : Nat) (a0_1 : List Bs) (a0_2 : List api_Edge) (x1679 : List (lts_edges × sets_Set)) (x1680 : Int) : Option (((List (lts_edges × sets_Set))) ⊕ ((Option lts_Table))) := iterC fu (fun t_ : (List (lts_edges × sets_Set)) × Int => lts_New.l1bc fu a0_1 a0_2 t_.1 t_.2) (x1679, x1680)
theorem lts_New.l1_ap (fu : Nat) (a0_1 : List Bs) (a0_2 : List api_Edge) (x1679 : List (lts_edges × sets_Set)) (x1680 : Int) : Ap (lts_New.l1c fu a0_1 a0_2 x1679 x1680) (lts_New.l1 a0_1 a0_2 x1679 x1680) := by
  unfold lts_New.l1c lts_New.l1
  repeat' with_reducible first | exact lts_New.l1b_ap _ _ _ _ _ | refine Ap.iter fun _ => ?_ | exact Ap.refl _
def lts_New.l0bc (fu : Nat) (a0_3 : List api_Prop) (x863 : List (Bs × sets_Set)) (x864 : Int) : Option (((List (Bs × sets_Set)) × Int) ⊕ (((List (Bs × sets_Set))) ⊕ ((Option lts_Table)))) :=
 if x864 < (a0_3.length : Int) then
 if (0 : Int) ≤ x864 ∧ x864 < (a0_3.length : Int) then
 (sets_Of.fc fu ((gt a0_3 x864).States)).bind fun t2735 =>
 nx ((mset x863 ((gt a0_3 x864).Name) (⟨t2735.1, t2735.2.1, t2735.2.2.1, t2735.2.2.2⟩ : sets_Set)), IntKind.i64.wrap (x864 + 1))
 else none
 else
 dn (.inl x863)
theorem lts_New.l0b_ap (fu : Nat) (a0_3 : List api_Prop) (x863 : List (Bs × sets_Set)) (x864 : Int) : Ap (lts_New.l0bc fu a0_3 x863 x864) (lts_New.l0b a0_3 x863 x864) := by
  unfold lts_New.l0bc lts_New.l0b
  repeat' with_reducible first | exact sets_Of.f_ap _ _ | exact Ap.none | refine Ap.ite ?_ ?_ | refine Ap.bind ?_ fun _ => ?_ | exact Ap.refl _
def lts_New.l0c (fu : Nat) (a0_3 : List api_Prop) (x863 : List (Bs × sets_Set)) (x864 : Int) : Option (((List (Bs × sets_Set))) ⊕ ((Option lts_Table))) := iterC fu (fun t_ : (List (Bs × sets_Set)) × Int => lts_New.l0bc fu a0_3 t_.1 t_.2) (x863, x864)
theorem lts_New.l0_ap (fu : Nat) (a0_3 : List api_Prop) (x863 : List (Bs × sets_Set)) (x864 : Int) : Ap (lts_New.l0c fu a0_3 x863 x864) (lts_New.l0 a0_3 x863 x864) := by
  unfold lts_New.l0c lts_New.l0
  repeat' with_reducible first | exact lts_New.l0b_ap _ _ _ _ | refine Ap.iter fun _ => ?_ | exact Ap.refl _
def lts_New.fc (fu : Nat) (a0_0 : Int) (a0_1 : List Bs) (a0_2 : List api_Edge) (a0_3 : List api_Prop) : Option (Option lts_Table) :=
 (lts_Right.fc fu a0_0 a0_1 a0_2 a0_3).bind fun t255 =>
 if t255 = true then
 jn (lts_New.l0c fu a0_3 ([] : List (Bs × sets_Set)) 0) (fun (x1065 : List (Bs × sets_Set)) =>
 jn (lts_New.l1c fu a0_1 a0_2 ([] : List (lts_edges × sets_Set)) 0) (fun (x1881 : List (lts_edges × sets_Set)) =>
 some (some (⟨a0_0, x1065, x1881⟩ : lts_Table))))
 else
 some none
theorem lts_New.f_ap (fu : Nat) (a0_0 : Int) (a0_1 : List Bs) (a0_2 : List api_Edge) (a0_3 : List api_Prop) : Ap (lts_New.fc fu a0_0 a0_1 a0_2 a0_3) (lts_New.f a0_0 a0_1 a0_2 a0_3) := by
  unfold lts_New.fc lts_New.f
  repeat' with_reducible first | exact lts_Right.f_ap _ _ _ _ _ | exact lts_New.l0_ap _ _ _ _ | exact lts_New.l1_ap _ _ _ _ _ | exact Ap.none | refine Ap.jn ?_ fun _ => ?_ | refine Ap.ite ?_ ?_ | refine Ap.bind ?_ fun _ => ?_ | exact Ap.refl _
def stringslite_IndexByte.fc (fu : Nat) (a0 : Bs) (a1 : Int) : Option Int :=
 some (Lib.indexByte a0 a1.toNat.toUInt8)
theorem stringslite_IndexByte.f_ap (fu : Nat) (a0 : Bs) (a1 : Int) : Ap (stringslite_IndexByte.fc fu a0 a1) (stringslite_IndexByte.f a0 a1) := by
  unfold stringslite_IndexByte.fc stringslite_IndexByte.f
  repeat' with_reducible first | exact Ap.refl _
def strings_IndexByte.fc (fu : Nat) (a0 : Bs) (a1 : Int) : Option Int :=
 (stringslite_IndexByte.fc fu a0 a1).bind fun t252 =>
 some t252
theorem strings_IndexByte.f_ap (fu : Nat) (a0 : Bs) (a1 : Int) : Ap (strings_IndexByte.fc fu a0 a1) (strings_IndexByte.f a0 a1) := by
  unfold strings_IndexByte.fc strings_IndexByte.f
  repeat' with_reducible first | exact stringslite_IndexByte.f_ap _ _ _ | refine Ap.bind ?_ fun _ => ?_ | exact Ap.refl _
def scan_kind.fc (fu : Nat) (a0 : Int) : Option Int :=
 if a0 = 10 then
 some 1
 else
 jn (
 if 97 ≤ a0 then
 some (.inl (decide (a0 ≤ 122)))
 else
 some (.inl false)) (fun (x453 : Bool) =>
 if x453 = true then
 some 2
 else
 jn (
 if 65 ≤ a0 then
 some (.inl (decide (a0 ≤ 90)))
 else
 some (.inl false)) (fun (x659 : Bool) =>
 if x659 = true then
 some 3
 else
 jn (
 if 48 ≤ a0 then
 some (.inl (decide (a0 ≤ 57)))
 else
 some (.inl false)) (fun (x865 : Bool) =>
 if x865 = true then
 some 4
 else
 jn (
 if 32 < a0 then
 some (.inl (decide (a0 < 127)))
 else
 some (.inl false)) (fun (x1071 : Bool) =>
 jn (
 if x1071 = true then
 some (.inl (!(decide (a0 = 95))))
 else
 some (.inl false)) (fun (x1276 : Bool) =>
 if x1276 = true then
 some 5
 else
 some 0)))))
theorem scan_kind.f_ap (fu : Nat) (a0 : Int) : Ap (scan_kind.fc fu a0) (scan_kind.f a0) := by
  unfold scan_kind.fc scan_kind.f
  repeat' with_reducible first | refine Ap.jn ?_ fun _ => ?_ | refine Ap.ite ?_ ?_ | exact Ap.refl _
def scan_long.l0bc (fu : Nat) (a1 : Bs) (x854 : Int) : Option ((Int) ⊕ ((Int) ⊕ (Int))) :=
 jn (
 if x854 < (a1.length : Int) then
 if (0 : Int) ≤ x854 ∧ x854 < (a1.length : Int) then
 some (.inl (decide (48 ≤ bat a1 x854)))
 else none
 else
 some (.inl false)) (fun (x1267 : Bool) =>
 jn (
 if x1267 = true then
 if (0 : Int) ≤ x854 ∧ x854 < (a1.length : Int) then
 some (.inl (decide (bat a1 x854 ≤ 57)))
 else none
 else
 some (.inl false)) (fun (x1472 : Bool) =>
 if x1472 = true then
 nx (IntKind.i64.wrap (x854 + 1))
 else
 dn (.inl x854)))
theorem scan_long.l0b_ap (fu : Nat) (a1 : Bs) (x854 : Int) : Ap (scan_long.l0bc fu a1 x854) (scan_long.l0b a1 x854) := by
  unfold scan_long.l0bc scan_long.l0b
  repeat' with_reducible first | exact Ap.none | refine Ap.jn ?_ fun _ => ?_ | refine Ap.ite ?_ ?_ | exact Ap.refl _
def scan_long.l0c (fu : Nat) (a1 : Bs) (x854 : Int) : Option ((Int) ⊕ (Int)) := iterC fu (fun t_ : Int => scan_long.l0bc fu a1 t_) x854
theorem scan_long.l0_ap (fu : Nat) (a1 : Bs) (x854 : Int) : Ap (scan_long.l0c fu a1 x854) (scan_long.l0 a1 x854) := by
  unfold scan_long.l0c scan_long.l0
  repeat' with_reducible first | exact scan_long.l0b_ap _ _ _ | refine Ap.iter fun _ => ?_ | exact Ap.refl _
def scan_long.l1bc (fu : Nat) (a1 : Bs) (x2085 : Int) : Option ((Int) ⊕ ((Int) ⊕ (Int))) :=
 jn (
 if x2085 < (a1.length : Int) then
 if (0 : Int) ≤ x2085 ∧ x2085 < (a1.length : Int) then
 jn (
 if bat a1 x2085 = 95 then
 some (.inl (true, true))
 else
 jn (
 if 97 ≤ bat a1 x2085 then
 some (.inl (true, decide (bat a1 x2085 ≤ 122)))
 else
 some (.inl (false, false))) (fun (s_ : Bool × Bool) =>
 some (.inl (false, s_.2)))) (fun (s_ : Bool × Bool) =>
 jn (
 if s_.2 = true then
 some (.inl (true, true))
 else
 jn (
 if 65 ≤ bat a1 x2085 then
 some (.inl (true, decide (bat a1 x2085 ≤ 90)))
 else
 some (.inl (false, false))) (fun (s_ : Bool × Bool) =>
 some (.inl (false, s_.2)))) (fun (s_ : Bool × Bool) =>
 jn (
 if s_.2 = true then
 some (.inl (true, true))
 else
 jn (
 if 48 ≤ bat a1 x2085 then
 some (.inl (true, decide (bat a1 x2085 ≤ 57)))
 else
 some (.inl (false, false))) (fun (s_ : Bool × Bool) =>
 some (.inl (false, s_.2)))) (fun (s_ : Bool × Bool) =>
 some (.inl s_.2))))
 else none
 else
 some (.inl false)) (fun (x2498 : Bool) =>
 if x2498 = true then
 nx (IntKind.i64.wrap (x2085 + 1))
 else
 dn (.inl x2085))
theorem scan_long.l1b_ap (fu : Nat) (a1 : Bs) (x2085 : Int) : Ap (scan_long.l1bc fu a1 x2085) (scan_long.l1b a1 x2085) := by
  unfold scan_long.l1bc scan_long.l1b
  repeat' with_reducible first | exact Ap.none | refine Ap.jn ?_ fun _ => ?_ | refine Ap.ite ?_ ?_ | exact Ap.refl _
def scan_long.l1c (fu : Nat) (a1 : Bs) (x2085 : Int) : Option ((Int) ⊕ (Int)) := iterC fu (fun t_ : Int => scan_long.l1bc fu a1 t_) x2085
theorem scan_long.l1_ap (fu : Nat) (a1 : Bs) (x2085 : Int) : Ap (scan_long.l1c fu a1 x2085) (scan_long.l1 a1 x2085) := by
  unfold scan_long.l1c scan_long.l1
  repeat' with_reducible first | exact scan_long.l1b_ap _ _ _ | refine Ap.iter fun _ => ?_ | exact Ap.refl _
def scan_long.l2bc (fu : Nat) (a1 : Bs) (x4350 : Int) : Option ((Int) ⊕ ((Int) ⊕ (Int))) :=
 jn (
 if x4350 < (a1.length : Int) then
 if (0 : Int) ≤ x4350 ∧ x4350 < (a1.length : Int) then
 jn (
 if bat a1 x4350 = 95 then
 some (.inl (true, true))
 else
 jn (
 if 97 ≤ bat a1 x4350 then
 some (.inl (true, decide (bat a1 x4350 ≤ 122)))
 else
 some (.inl (false, false))) (fun (s_ : Bool × Bool) =>
 some (.inl (false, s_.2)))) (fun (s_ : Bool × Bool) =>
 jn (
 if s_.2 = true then
 some (.inl (true, true))
 else
 jn (
 if 65 ≤ bat a1 x4350 then
 some (.inl (true, decide (bat a1 x4350 ≤ 90)))
 else
 some (.inl (false, false))) (fun (s_ : Bool × Bool) =>
 some (.inl (false, s_.2)))) (fun (s_ : Bool × Bool) =>
 jn (
 if s_.2 = true then
 some (.inl (true, true))
 else
 jn (
 if 48 ≤ bat a1 x4350 then
 some (.inl (true, decide (bat a1 x4350 ≤ 57)))
 else
 some (.inl (false, false))) (fun (s_ : Bool × Bool) =>
 some (.inl (false, s_.2)))) (fun (s_ : Bool × Bool) =>
 some (.inl s_.2))))
 else none
 else
 some (.inl false)) (fun (x4763 : Bool) =>
 if x4763 = true then
 nx (IntKind.i64.wrap (x4350 + 1))
 else
 dn (.inl x4350))
theorem scan_long.l2b_ap (fu : Nat) (a1 : Bs) (x4350 : Int) : Ap (scan_long.l2bc fu a1 x4350) (scan_long.l2b a1 x4350) := by
  unfold scan_long.l2bc scan_long.l2b
  repeat' with_reducible first | exact Ap.none | refine Ap.jn ?_ fun _ => ?_ | refine Ap.ite ?_ ?_ | exact Ap.refl _
def scan_long.l2c (fu : Nat) (a1 : Bs) (x4350 : Int) : Option ((Int) ⊕ (Int)) := iterC fu (fun t_ : Int => scan_long.l2bc fu a1 t_) x4350
theorem scan_long.l2_ap (fu : Nat) (a1 : Bs) (x4350 : Int) : Ap (scan_long.l2c fu a1 x4350) (scan_long.l2 a1 x4350) := by
  unfold scan_long.l2c scan_long.l2
  repeat' with_reducible first | exact scan_long.l2b_ap _ _ _ | refine Ap.iter fun _ => ?_ | exact Ap.refl _
def scan_long.fc (fu : Nat) (a0 : Int) (a1 : Bs) : Option Int :=
 if a0 = 4 then
 jn (scan_long.l0c fu a1 1) (fun (x1055 : Int) =>
 some x1055)
 else
 if a0 = 2 then
 jn (scan_long.l1c fu a1 1) (fun (x2286 : Int) =>
 some x2286)
 else
 if a0 = 3 then
 jn (scan_long.l2c fu a1 1) (fun (x4551 : Int) =>
 some x4551)
 else
 some 1
theorem scan_long.f_ap (fu : Nat) (a0 : Int) (a1 : Bs) : Ap (scan_long.fc fu a0 a1) (scan_long.f a0 a1) := by
  unfold scan_long.fc scan_long.f
  repeat' with_reducible first | exact scan_long.l0_ap _ _ _ | exact scan_long.l1_ap _ _ _ | exact scan_long.l2_ap _ _ _ | refine Ap.jn ?_ fun _ => ?_ | refine Ap.ite ?_ ?_ | exact Ap.refl _
def scan_value.l0bc (fu : Nat) (a0 : Bs) (x1061 : Int) (x1062 : Int) : Option ((Int × Int) ⊕ ((Int) ⊕ (Bool × Int))) :=
 if x1062 < (a0.length : Int) then
 if (0 : Int) ≤ x1062 ∧ x1062 < (a0.length : Int) then
 nx (IntKind.i64.wrap (IntKind.i64.wrap (10 * x1061) + (IntKind.i64.wrap (IntKind.u8.wrap (bat a0 x1062 - 48)))), IntKind.i64.wrap (x1062 + 1))
 else none
 else
 dn (.inl x1061)
theorem scan_value.l0b_ap (fu : Nat) (a0 : Bs) (x1061 : Int) (x1062 : Int) : Ap (scan_value.l0bc fu a0 x1061 x1062) (scan_value.l0b a0 x1061 x1062) := by
  unfold scan_value.l0bc scan_value.l0b
  repeat' with_reducible first | exact Ap.none | refine Ap.ite ?_ ?_ | exact Ap.refl _
def scan_value.l0c (fu : Nat) (a0 : Bs) (x1061 : Int) (x1062 : Int) : Option ((Int) ⊕ (Bool × Int)) := iterC fu (fun t_ : Int × Int => scan_value.l0bc fu a0 t_.1 t_.2) (x1061, x1062)
theorem scan_value.l0_ap (fu : Nat) (a0 : Bs) (x1061 : Int) (x1062 : Int) : Ap (scan_value.l0c fu a0 x1061 x1062) (scan_value.l0 a0 x1061 x1062) := by
  unfold scan_value.l0c scan_value.l0
  repeat' with_reducible first | exact scan_value.l0b_ap _ _ _ _ | refine Ap.iter fun _ => ?_ | exact Ap.refl _
def scan_value.fc (fu : Nat) (a0 : Bs) : Option (Bool × Int) :=
 jn (
 if 4 < (a0.length : Int) then
 some (.inl true)
 else
 jn (
 if 1 < (a0.length : Int) then
 if (0 : Int) ≤ 0 ∧ 0 < (a0.length : Int) then
 some (.inl (decide (bat a0 0 = 48)))
 else none
 else
 some (.inl false)) (fun (x1478 : Bool) =>
 some (.inl x1478))) (fun (x453 : Bool) =>
 if x453 = true then
 some (false, 0)
 else
 jn (scan_value.l0c fu a0 0 0) (fun (x1263 : Int) =>
 some (decide (x1263 ≤ 9999), x1263)))
theorem scan_value.f_ap (fu : Nat) (a0 : Bs) : Ap (scan_value.fc fu a0) (scan_value.f a0) := by
  unfold scan_value.fc scan_value.f
  repeat' with_reducible first | exact scan_value.l0_ap _ _ _ _ | exact Ap.none | refine Ap.jn ?_ fun _ => ?_ | refine Ap.ite ?_ ?_ | exact Ap.refl _
def scan_token.fc (fu : Nat) (a0 : Bs) (a1 : Int) : Option (Int × Int × Int × Bs × Int) :=
 if (0 : Int) ≤ a1 ∧ a1 < (a0.length : Int) then
 (scan_kind.fc fu (bat a0 a1)).bind fun t266 =>
 if (0 : Int) ≤ a1 ∧ a1 ≤ (a0.length : Int) then
 (scan_long.fc fu t266 (a0.drop a1.toNat)).bind fun t272 =>
 if (0 : Int) ≤ a1 ∧ a1 ≤ IntKind.i64.wrap (a1 + t272) ∧ IntKind.i64.wrap (a1 + t272) ≤ (a0.length : Int) then
 if t266 = 0 then
 some (3, t266, a1, (bsl a0 a1 (IntKind.i64.wrap (a1 + t272))), 0)
 else
 if t266 = 2 then
 if 8 < ((bsl a0 a1 (IntKind.i64.wrap (a1 + t272))).length : Int) then
 some (5, t266, a1, (bsl a0 a1 (IntKind.i64.wrap (a1 + t272))), 0)
 else
 some (0, t266, a1, (bsl a0 a1 (IntKind.i64.wrap (a1 + t272))), 0)
 else
 if t266 = 3 then
 if 8 < ((bsl a0 a1 (IntKind.i64.wrap (a1 + t272))).length : Int) then
 some (5, t266, a1, (bsl a0 a1 (IntKind.i64.wrap (a1 + t272))), 0)
 else
 some (0, t266, a1, (bsl a0 a1 (IntKind.i64.wrap (a1 + t272))), 0)
 else
 if t266 = 4 then
 (scan_value.fc fu (bsl a0 a1 (IntKind.i64.wrap (a1 + t272)))).bind fun t282 =>
 if t282.1 = true then
 some (0, t266, a1, (bsl a0 a1 (IntKind.i64.wrap (a1 + t272))), t282.2)
 else
 some (4, t266, a1, (bsl a0 a1 (IntKind.i64.wrap (a1 + t272))), 0)
 else
 some (0, t266, a1, (bsl a0 a1 (IntKind.i64.wrap (a1 + t272))), 0)
 else none
 else none
 else none
theorem scan_token.f_ap (fu : Nat) (a0 : Bs) (a1 : Int) : Ap (scan_token.fc fu a0 a1) (scan_token.f a0 a1) := by
  unfold scan_token.fc scan_token.f
  repeat' with_reducible first | exact scan_kind.f_ap _ _ | exact scan_long.f_ap _ _ _ | exact scan_value.f_ap _ _ | exact Ap.none | refine Ap.ite ?_ ?_ | refine Ap.bind ?_ fun _ => ?_ | exact Ap.refl _
def scan_All.l0bc (fu : Nat) (a0 : Bs) (x867 : List api_Token) (x872 : Int) : Option (((List api_Token) × Int) ⊕ (((List api_Token)) ⊕ ((Option api_Fault) × (List api_Token)))) :=
 if x872 < (a0.length : Int) then
 if (0 : Int) ≤ x872 ∧ x872 < (a0.length : Int) then
 jn (
 if bat a0 x872 = 32 then
 some (.inl true)
 else
 some (.inl (decide (bat a0 x872 = 9)))) (fun (x1297 : Bool) =>
 if x1297 = true then
 nx (x867, IntKind.i64.wrap (x872 + 1))
 else
 if bat a0 x872 = 35 then
 if (0 : Int) ≤ x872 ∧ x872 ≤ (a0.length : Int) then
 (strings_IndexByte.fc fu (a0.drop x872.toNat) 10).bind fun t1305 =>
 if t1305 < 0 then
 nx (x867, IntKind.i64.wrap (x872 + (IntKind.i64.wrap ((a0.length : Int) - x872))))
 else
 nx (x867, IntKind.i64.wrap (x872 + t1305))
 else none
 else
 (scan_token.fc fu a0 x872).bind fun t1308 =>
 if t1308.1 = 0 then
 if (x867.length + ([(⟨t1308.2.1, t1308.2.2.1, t1308.2.2.2.1, t1308.2.2.2.2⟩ : api_Token)] : List api_Token).length) * 40 ≤ 140737488355328 then
 nx ((x867 ++ ([(⟨t1308.2.1, t1308.2.2.1, t1308.2.2.2.1, t1308.2.2.2.2⟩ : api_Token)] : List api_Token)), IntKind.i64.wrap (x872 + (t1308.2.2.2.1.length : Int)))
 else none
 else
 upL (some ((some (⟨x872, t1308.1⟩ : api_Fault)), ([] : List api_Token))))
 else none
 else
 dn (.inl x867)
theorem scan_All.l0b_ap (fu : Nat) (a0 : Bs) (x867 : List api_Token) (x872 : Int) : Ap (scan_All.l0bc fu a0 x867 x872) (scan_All.l0b a0 x867 x872) := by
  unfold scan_All.l0bc scan_All.l0b
  repeat' with_reducible first | exact strings_IndexByte.f_ap _ _ _ | exact scan_token.f_ap _ _ _ | exact Ap.none | refine Ap.jn ?_ fun _ => ?_ | refine Ap.ite ?_ ?_ | refine Ap.upL ?_ | refine Ap.bind ?_ fun _ => ?_ | exact Ap.refl _
def scan_All.l0c (fu : Nat) (a0 : Bs) (x867 : List api_Token) (x872 : Int) : Option (((List api_Token)) ⊕ ((Option api_Fault) × (List api_Token))) := iterC fu (fun t_ : (List api_Token) × Int => scan_All.l0bc fu a0 t_.1 t_.2) (x867, x872)
theorem scan_All.l0_ap (fu : Nat) (a0 : Bs) (x867 : List api_Token) (x872 : Int) : Ap (scan_All.l0c fu a0 x867 x872) (scan_All.l0 a0 x867 x872) := by
  unfold scan_All.l0c scan_All.l0
  repeat' with_reducible first | exact scan_All.l0b_ap _ _ _ _ | refine Ap.iter fun _ => ?_ | exact Ap.refl _
def scan_All.fc (fu : Nat) (a0 : Bs) : Option ((Option api_Fault) × (List api_Token)) :=
 if 262144 < (a0.length : Int) then
 some ((some (⟨262144, 2⟩ : api_Fault)), ([] : List api_Token))
 else
 jn (scan_All.l0c fu a0 ([] : List api_Token) 0) (fun (x1073 : List api_Token) =>
 if (x1073.length + ([(⟨0, (a0.length : Int), ([] : Bs), 0⟩ : api_Token)] : List api_Token).length) * 40 ≤ 140737488355328 then
 some (none, (x1073 ++ ([(⟨0, (a0.length : Int), ([] : Bs), 0⟩ : api_Token)] : List api_Token)))
 else none)
theorem scan_All.f_ap (fu : Nat) (a0 : Bs) : Ap (scan_All.fc fu a0) (scan_All.f a0) := by
  unfold scan_All.fc scan_All.f
  repeat' with_reducible first | exact scan_All.l0_ap _ _ _ _ | exact Ap.none | refine Ap.jn ?_ fun _ => ?_ | refine Ap.ite ?_ ?_ | exact Ap.refl _
def lts_reader_blank.l0bc (fu : Nat) (x868 : List api_Token) : Option (((List api_Token)) ⊕ (((List api_Token)) ⊕ ((List api_Token)))) :=
 if (0 : Int) ≤ 0 ∧ 0 < (x868.length : Int) then
 if (gt x868 0).Kind = 1 then
 if (0 : Int) ≤ 1 ∧ 1 ≤ (x868.length : Int) then
 nx (x868.drop (1 : Int).toNat)
 else none
 else
 dn (.inl x868)
 else none
theorem lts_reader_blank.l0b_ap (fu : Nat) (x868 : List api_Token) : Ap (lts_reader_blank.l0bc fu x868) (lts_reader_blank.l0b x868) := by
  unfold lts_reader_blank.l0bc lts_reader_blank.l0b
  repeat' with_reducible first | exact Ap.none | refine Ap.ite ?_ ?_ | exact Ap.refl _
def lts_reader_blank.l0c (fu : Nat) (x868 : List api_Token) : Option (((List api_Token)) ⊕ ((List api_Token))) := iterC fu (fun t_ : (List api_Token) => lts_reader_blank.l0bc fu  t_) x868
theorem lts_reader_blank.l0_ap (fu : Nat) (x868 : List api_Token) : Ap (lts_reader_blank.l0c fu x868) (lts_reader_blank.l0 x868) := by
  unfold lts_reader_blank.l0c lts_reader_blank.l0
  repeat' with_reducible first | exact lts_reader_blank.l0b_ap _ _ | refine Ap.iter fun _ => ?_ | exact Ap.refl _
def lts_reader_blank.fc (fu : Nat) (a0_0 : List api_Token) (a0_1 : Option api_Fault) (a0_2 : Int) (a0_3 : List Bs) (a0_4 : List api_Edge) (a0_5 : List api_Prop) (a0_6 : List lts_step) (a0_7 : List (Bs × Bool)) : Option (List api_Token) :=
 jn (lts_reader_blank.l0c fu  a0_0) (fun (x1075 : List api_Token) =>
 some x1075)
theorem lts_reader_blank.f_ap (fu : Nat) (a0_0 : List api_Token) (a0_1 : Option api_Fault) (a0_2 : Int) (a0_3 : List Bs) (a0_4 : List api_Edge) (a0_5 : List api_Prop) (a0_6 : List lts_step) (a0_7 : List (Bs × Bool)) : Ap (lts_reader_blank.fc fu a0_0 a0_1 a0_2 a0_3 a0_4 a0_5 a0_6 a0_7) (lts_reader_blank.f a0_0 a0_1 a0_2 a0_3 a0_4 a0_5 a0_6 a0_7) := by
  unfold lts_reader_blank.fc lts_reader_blank.f
  repeat' with_reducible first | exact lts_reader_blank.l0_ap _ _ | refine Ap.jn ?_ fun _ => ?_ | exact Ap.refl _
def lts_reader_fail.fc (fu : Nat) (a0_0 : List api_Token) (a0_1 : Option api_Fault) (a0_2 : Int) (a0_3 : List Bs) (a0_4 : List api_Edge) (a0_5 : List api_Prop) (a0_6 : List lts_step) (a0_7 : List (Bs × Bool)) (a1_0 : Int) (a1_1 : Int) (a1_2 : Bs) (a1_3 : Int) (a2 : Int) : Option (Option api_Fault) :=
 if a0_1.isNone = true then
 some (some (⟨a1_1, a2⟩ : api_Fault))
 else
 some a0_1
theorem lts_reader_fail.f_ap (fu : Nat) (a0_0 : List api_Token) (a0_1 : Option api_Fault) (a0_2 : Int) (a0_3 : List Bs) (a0_4 : List api_Edge) (a0_5 : List api_Prop) (a0_6 : List lts_step) (a0_7 : List (Bs × Bool)) (a1_0 : Int) (a1_1 : Int) (a1_2 : Bs) (a1_3 : Int) (a2 : Int) : Ap (lts_reader_fail.fc fu a0_0 a0_1 a0_2 a0_3 a0_4 a0_5 a0_6 a0_7 a1_0 a1_1 a1_2 a1_3 a2) (lts_reader_fail.f a0_0 a0_1 a0_2 a0_3 a0_4 a0_5 a0_6 a0_7 a1_0 a1_1 a1_2 a1_3 a2) := by
  unfold lts_reader_fail.fc lts_reader_fail.f
  repeat' with_reducible first | refine Ap.ite ?_ ?_ | exact Ap.refl _
def lts_reader_want.fc (fu : Nat) (a0_0 : List api_Token) (a0_1 : Option api_Fault) (a0_2 : Int) (a0_3 : List Bs) (a0_4 : List api_Edge) (a0_5 : List api_Prop) (a0_6 : List lts_step) (a0_7 : List (Bs × Bool)) (a1 : Int) : Option ((Option api_Fault) × (List api_Token) × Int × Int × Bs × Int) :=
 if a0_1.isNone = true then
 if (0 : Int) ≤ 0 ∧ 0 < (a0_0.length : Int) then
 jn (
 if (gt a0_0 0).Kind = a1 then
 if (0 : Int) ≤ 1 ∧ 1 ≤ (a0_0.length : Int) then
 up (some (a0_1, (a0_0.drop (1 : Int).toNat), (gt a0_0 0).Kind, (gt a0_0 0).At, (gt a0_0 0).Text, (gt a0_0 0).Number))
 else none
 else
 if (gt a0_0 0).Kind = 0 then
 (lts_reader_fail.fc fu a0_0 a0_1 a0_2 a0_3 a0_4 a0_5 a0_6 a0_7 ((gt a0_0 0).Kind) ((gt a0_0 0).At) ((gt a0_0 0).Text) ((gt a0_0 0).Number) 6).bind fun t485 =>
 some (.inl t485)
 else
 (lts_reader_fail.fc fu a0_0 a0_1 a0_2 a0_3 a0_4 a0_5 a0_6 a0_7 ((gt a0_0 0).Kind) ((gt a0_0 0).At) ((gt a0_0 0).Text) ((gt a0_0 0).Number) 7).bind fun t489 =>
 some (.inl t489)) (fun (x477 : Option api_Fault) =>
 some (x477, a0_0, 0, 0, ([] : Bs), 0))
 else none
 else
 some (a0_1, a0_0, 0, 0, ([] : Bs), 0)
theorem lts_reader_want.f_ap (fu : Nat) (a0_0 : List api_Token) (a0_1 : Option api_Fault) (a0_2 : Int) (a0_3 : List Bs) (a0_4 : List api_Edge) (a0_5 : List api_Prop) (a0_6 : List lts_step) (a0_7 : List (Bs × Bool)) (a1 : Int) : Ap (lts_reader_want.fc fu a0_0 a0_1 a0_2 a0_3 a0_4 a0_5 a0_6 a0_7 a1) (lts_reader_want.f a0_0 a0_1 a0_2 a0_3 a0_4 a0_5 a0_6 a0_7 a1) := by
  unfold lts_reader_want.fc lts_reader_want.f
  repeat' with_reducible first | exact lts_reader_fail.f_ap _ _ _ _ _ _ _ _ _ _ _ _ _ _ | exact Ap.none | refine Ap.jn ?_ fun _ => ?_ | refine Ap.ite ?_ ?_ | refine Ap.up ?_ | refine Ap.bind ?_ fun _ => ?_ | exact Ap.refl _
def lts_reader_ends.fc (fu : Nat) (a0_0 : List api_Token) (a0_1 : Option api_Fault) (a0_2 : Int) (a0_3 : List Bs) (a0_4 : List api_Edge) (a0_5 : List api_Prop) (a0_6 : List lts_step) (a0_7 : List (Bs × Bool)) : Option Bool :=
 if (0 : Int) ≤ 0 ∧ 0 < (a0_0.length : Int) then
 jn (
 if (gt a0_0 0).Kind = 0 then
 some (.inl true)
 else
 some (.inl (decide ((gt a0_0 0).Kind = 1)))) (fun (x453 : Bool) =>
 some x453)
 else none
theorem lts_reader_ends.f_ap (fu : Nat) (a0_0 : List api_Token) (a0_1 : Option api_Fault) (a0_2 : Int) (a0_3 : List Bs) (a0_4 : List api_Edge) (a0_5 : List api_Prop) (a0_6 : List lts_step) (a0_7 : List (Bs × Bool)) : Ap (lts_reader_ends.fc fu a0_0 a0_1 a0_2 a0_3 a0_4 a0_5 a0_6 a0_7) (lts_reader_ends.f a0_0 a0_1 a0_2 a0_3 a0_4 a0_5 a0_6 a0_7) := by
  unfold lts_reader_ends.fc lts_reader_ends.f
  repeat' with_reducible first | exact Ap.none | refine Ap.jn ?_ fun _ => ?_ | refine Ap.ite ?_ ?_ | exact Ap.refl _
def lts_reader_end.fc (fu : Nat) (a0_0 : List api_Token) (a0_1 : Option api_Fault) (a0_2 : Int) (a0_3 : List Bs) (a0_4 : List api_Edge) (a0_5 : List api_Prop) (a0_6 : List lts_step) (a0_7 : List (Bs × Bool)) : Option (Option api_Fault) :=
 (lts_reader_ends.fc fu a0_0 a0_1 a0_2 a0_3 a0_4 a0_5 a0_6 a0_7).bind fun t253 =>
 if t253 = true then
 some a0_1
 else
 if (0 : Int) ≤ 0 ∧ 0 < (a0_0.length : Int) then
 (lts_reader_fail.fc fu a0_0 a0_1 a0_2 a0_3 a0_4 a0_5 a0_6 a0_7 ((gt a0_0 0).Kind) ((gt a0_0 0).At) ((gt a0_0 0).Text) ((gt a0_0 0).Number) 7).bind fun t257 =>
 some t257
 else none
theorem lts_reader_end.f_ap (fu : Nat) (a0_0 : List api_Token) (a0_1 : Option api_Fault) (a0_2 : Int) (a0_3 : List Bs) (a0_4 : List api_Edge) (a0_5 : List api_Prop) (a0_6 : List lts_step) (a0_7 : List (Bs × Bool)) : Ap (lts_reader_end.fc fu a0_0 a0_1 a0_2 a0_3 a0_4 a0_5 a0_6 a0_7) (lts_reader_end.f a0_0 a0_1 a0_2 a0_3 a0_4 a0_5 a0_6 a0_7) := by
  unfold lts_reader_end.fc lts_reader_end.f
  repeat' with_reducible first | exact lts_reader_ends.f_ap _ _ _ _ _ _ _ _ _ | exact lts_reader_fail.f_ap _ _ _ _ _ _ _ _ _ _ _ _ _ _ | exact Ap.none | refine Ap.ite ?_ ?_ | refine Ap.bind ?_ fun _ => ?_ | exact Ap.refl _
def lts_reader_head.fc (fu : Nat) (a0_0 : List api_Token) (a0_1 : Option api_Fault) (a0_2 : Int) (a0_3 : List Bs) (a0_4 : List api_Edge) (a0_5 : List api_Prop) (a0_6 : List lts_step) (a0_7 : List (Bs × Bool)) : Option ((Option api_Fault) × (List api_Token) × Int) :=
 (lts_reader_blank.fc fu a0_0 a0_1 a0_2 a0_3 a0_4 a0_5 a0_6 a0_7).bind fun t266 =>
 (lts_reader_want.fc fu t266 a0_1 a0_2 a0_3 a0_4 a0_5 a0_6 a0_7 2).bind fun t274 =>
 jn (
 if t274.1.isNone = true then
 some (.inl (!(bseqC t274.2.2.2.2.1 ([115, 116, 97, 116, 101, 115] : Bs))))
 else
 some (.inl false)) (fun (x485 : Bool) =>
 if x485 = true then
 (lts_reader_fail.fc fu t274.2.1 t274.1 a0_2 a0_3 a0_4 a0_5 a0_6 a0_7 t274.2.2.1 t274.2.2.2.1 t274.2.2.2.2.1 t274.2.2.2.2.2 7).bind fun t491 =>
 (lts_reader_want.fc fu t274.2.1 t491 a0_2 a0_3 a0_4 a0_5 a0_6 a0_7 4).bind fun t495 =>
 jn (
 if t495.1.isNone = true then
 jn (
 if t495.2.2.2.2.2 < 1 then
 some (.inl true)
 else
 some (.inl (decide (24 < t495.2.2.2.2.2)))) (fun (x923 : Bool) =>
 some (.inl x923))
 else
 some (.inl false)) (fun (x706 : Bool) =>
 if x706 = true then
 (lts_reader_fail.fc fu t495.2.1 t495.1 t495.2.2.2.2.2 a0_3 a0_4 a0_5 a0_6 a0_7 t495.2.2.1 t495.2.2.2.1 t495.2.2.2.2.1 t495.2.2.2.2.2 8).bind fun t712 =>
 (lts_reader_end.fc fu t495.2.1 t712 t495.2.2.2.2.2 a0_3 a0_4 a0_5 a0_6 a0_7).bind fun t716 =>
 some (t716, t495.2.1, t495.2.2.2.2.2)
 else
 (lts_reader_end.fc fu t495.2.1 t495.1 t495.2.2.2.2.2 a0_3 a0_4 a0_5 a0_6 a0_7).bind fun t719 =>
 some (t719, t495.2.1, t495.2.2.2.2.2))
 else
 (lts_reader_want.fc fu t274.2.1 t274.1 a0_2 a0_3 a0_4 a0_5 a0_6 a0_7 4).bind fun t929 =>
 jn (
 if t929.1.isNone = true then
 jn (
 if t929.2.2.2.2.2 < 1 then
 some (.inl true)
 else
 some (.inl (decide (24 < t929.2.2.2.2.2)))) (fun (x1357 : Bool) =>
 some (.inl x1357))
 else
 some (.inl false)) (fun (x1140 : Bool) =>
 if x1140 = true then
 (lts_reader_fail.fc fu t929.2.1 t929.1 t929.2.2.2.2.2 a0_3 a0_4 a0_5 a0_6 a0_7 t929.2.2.1 t929.2.2.2.1 t929.2.2.2.2.1 t929.2.2.2.2.2 8).bind fun t1146 =>
 (lts_reader_end.fc fu t929.2.1 t1146 t929.2.2.2.2.2 a0_3 a0_4 a0_5 a0_6 a0_7).bind fun t1150 =>
 some (t1150, t929.2.1, t929.2.2.2.2.2)
 else
 (lts_reader_end.fc fu t929.2.1 t929.1 t929.2.2.2.2.2 a0_3 a0_4 a0_5 a0_6 a0_7).bind fun t1153 =>
 some (t1153, t929.2.1, t929.2.2.2.2.2)))
theorem lts_reader_head.f_ap (fu : Nat) (a0_0 : List api_Token) (a0_1 : Option api_Fault) (a0_2 : Int) (a0_3 : List Bs) (a0_4 : List api_Edge) (a0_5 : List api_Prop) (a0_6 : List lts_step) (a0_7 : List (Bs × Bool)) : Ap (lts_reader_head.fc fu a0_0 a0_1 a0_2 a0_3 a0_4 a0_5 a0_6 a0_7) (lts_reader_head.f a0_0 a0_1 a0_2 a0_3 a0_4 a0_5 a0_6 a0_7) := by
  unfold lts_reader_head.fc lts_reader_head.f
  rw [bseq_bseqC]
  repeat' with_reducible first | exact lts_reader_blank.f_ap _ _ _ _ _ _ _ _ _ | exact lts_reader_want.f_ap _ _ _ _ _ _ _ _ _ _ | exact lts_reader_fail.f_ap _ _ _ _ _ _ _ _ _ _ _ _ _ _ | exact lts_reader_end.f_ap _ _ _ _ _ _ _ _ _ | refine Ap.jn ?_ fun _ => ?_ | refine Ap.ite ?_ ?_ | refine Ap.bind ?_ fun _ => ?_ | exact Ap.refl _
def lts_reader_state.fc (fu : Nat) (a0_0 : List api_Token) (a0_1 : Option api_Fault) (a0_2 : Int) (a0_3 : List Bs) (a0_4 : List api_Edge) (a0_5 : List api_Prop) (a0_6 : List lts_step) (a0_7 : List (Bs × Bool)) : Option ((Option api_Fault) × (List api_Token) × Int × Int × Int × Bs × Int) :=
 (lts_reader_want.fc fu a0_0 a0_1 a0_2 a0_3 a0_4 a0_5 a0_6 a0_7 4).bind fun t276 =>
 jn (
 if t276.1.isNone = true then
 some (.inl (decide (a0_2 ≤ t276.2.2.2.2.2)))
 else
 some (.inl false)) (fun (x487 : Bool) =>
 if x487 = true then
 (lts_reader_fail.fc fu t276.2.1 t276.1 a0_2 a0_3 a0_4 a0_5 a0_6 a0_7 t276.2.2.1 t276.2.2.2.1 t276.2.2.2.2.1 t276.2.2.2.2.2 8).bind fun t493 =>
 some (t493, t276.2.1, t276.2.2.2.2.2, t276.2.2.1, t276.2.2.2.1, t276.2.2.2.2.1, t276.2.2.2.2.2)
 else
 some (t276.1, t276.2.1, t276.2.2.2.2.2, t276.2.2.1, t276.2.2.2.1, t276.2.2.2.2.1, t276.2.2.2.2.2))
theorem lts_reader_state.f_ap (fu : Nat) (a0_0 : List api_Token) (a0_1 : Option api_Fault) (a0_2 : Int) (a0_3 : List Bs) (a0_4 : List api_Edge) (a0_5 : List api_Prop) (a0_6 : List lts_step) (a0_7 : List (Bs × Bool)) : Ap (lts_reader_state.fc fu a0_0 a0_1 a0_2 a0_3 a0_4 a0_5 a0_6 a0_7) (lts_reader_state.f a0_0 a0_1 a0_2 a0_3 a0_4 a0_5 a0_6 a0_7) := by
  unfold lts_reader_state.fc lts_reader_state.f
  repeat' with_reducible first | exact lts_reader_want.f_ap _ _ _ _ _ _ _ _ _ _ | exact lts_reader_fail.f_ap _ _ _ _ _ _ _ _ _ _ _ _ _ _ | refine Ap.jn ?_ fun _ => ?_ | refine Ap.ite ?_ ?_ | refine Ap.bind ?_ fun _ => ?_ | exact Ap.refl _
def lts_reader_named.fc (fu : Nat) (a0_0 : List api_Token) (a0_1 : Option api_Fault) (a0_2 : Int) (a0_3 : List Bs) (a0_4 : List api_Edge) (a0_5 : List api_Prop) (a0_6 : List lts_step) (a0_7 : List (Bs × Bool)) : Option ((Option api_Fault) × (List api_Token) × Int × Int × Bs × Int) :=
 (lts_reader_want.fc fu a0_0 a0_1 a0_2 a0_3 a0_4 a0_5 a0_6 a0_7 2).bind fun t275 =>
 jn (
 if t275.1.isNone = true then
 (lts_name.fc fu t275.2.2.2.2.1).bind fun t497 =>
 some (.inl (!t497))
 else
 some (.inl false)) (fun (x486 : Bool) =>
 if x486 = true then
 (lts_reader_fail.fc fu t275.2.1 t275.1 a0_2 a0_3 a0_4 a0_5 a0_6 a0_7 t275.2.2.1 t275.2.2.2.1 t275.2.2.2.2.1 t275.2.2.2.2.2 7).bind fun t492 =>
 some (t492, t275.2.1, t275.2.2.1, t275.2.2.2.1, t275.2.2.2.2.1, t275.2.2.2.2.2)
 else
 some (t275.1, t275.2.1, t275.2.2.1, t275.2.2.2.1, t275.2.2.2.2.1, t275.2.2.2.2.2))
theorem lts_reader_named.f_ap (fu : Nat) (a0_0 : List api_Token) (a0_1 : Option api_Fault) (a0_2 : Int) (a0_3 : List Bs) (a0_4 : List api_Edge) (a0_5 : List api_Prop) (a0_6 : List lts_step) (a0_7 : List (Bs × Bool)) : Ap (lts_reader_named.fc fu a0_0 a0_1 a0_2 a0_3 a0_4 a0_5 a0_6 a0_7) (lts_reader_named.f a0_0 a0_1 a0_2 a0_3 a0_4 a0_5 a0_6 a0_7) := by
  unfold lts_reader_named.fc lts_reader_named.f
  repeat' with_reducible first | exact lts_reader_want.f_ap _ _ _ _ _ _ _ _ _ _ | exact lts_name.f_ap _ _ | exact lts_reader_fail.f_ap _ _ _ _ _ _ _ _ _ _ _ _ _ _ | refine Ap.jn ?_ fun _ => ?_ | refine Ap.ite ?_ ?_ | refine Ap.bind ?_ fun _ => ?_ | exact Ap.refl _
def slices_Index_lts_step_lts_step.l0bc (fu : Nat) (a0 : List lts_step) (a1_0 : Int) (a1_1 : Bs) (a1_2 : Int) (x855 : Int) : Option ((Int) ⊕ ((Unit) ⊕ (Int))) :=
 if x855 < (a0.length : Int) then
 if (0 : Int) ≤ x855 ∧ x855 < (a0.length : Int) then
 if (decide (a1_0 = (gt a0 x855).from_) && (bseqC a1_1 ((gt a0 x855).action) && (decide (a1_2 = (gt a0 x855).to) && true))) = true then
 upL (some x855)
 else
 nx (IntKind.i64.wrap (x855 + 1))
 else none
 else
 dn (.inl ())
theorem slices_Index_lts_step_lts_step.l0b_ap (fu : Nat) (a0 : List lts_step) (a1_0 : Int) (a1_1 : Bs) (a1_2 : Int) (x855 : Int) : Ap (slices_Index_lts_step_lts_step.l0bc fu a0 a1_0 a1_1 a1_2 x855) (slices_Index_lts_step_lts_step.l0b a0 a1_0 a1_1 a1_2 x855) := by
  unfold slices_Index_lts_step_lts_step.l0bc slices_Index_lts_step_lts_step.l0b
  rw [bseq_bseqC]
  repeat' with_reducible first | exact Ap.none | refine Ap.ite ?_ ?_ | refine Ap.upL ?_ | exact Ap.refl _
def slices_Index_lts_step_lts_step.l0c (fu : Nat) (a0 : List lts_step) (a1_0 : Int) (a1_1 : Bs) (a1_2 : Int) (x855 : Int) : Option ((Unit) ⊕ (Int)) := iterC fu (fun t_ : Int => slices_Index_lts_step_lts_step.l0bc fu a0 a1_0 a1_1 a1_2 t_) x855
theorem slices_Index_lts_step_lts_step.l0_ap (fu : Nat) (a0 : List lts_step) (a1_0 : Int) (a1_1 : Bs) (a1_2 : Int) (x855 : Int) : Ap (slices_Index_lts_step_lts_step.l0c fu a0 a1_0 a1_1 a1_2 x855) (slices_Index_lts_step_lts_step.l0 a0 a1_0 a1_1 a1_2 x855) := by
  unfold slices_Index_lts_step_lts_step.l0c slices_Index_lts_step_lts_step.l0
  repeat' with_reducible first | exact slices_Index_lts_step_lts_step.l0b_ap _ _ _ _ _ _ | refine Ap.iter fun _ => ?_ | exact Ap.refl _
def slices_Index_lts_step_lts_step.fc (fu : Nat) (a0 : List lts_step) (a1_0 : Int) (a1_1 : Bs) (a1_2 : Int) : Option Int :=
 jn (slices_Index_lts_step_lts_step.l0c fu a0 a1_0 a1_1 a1_2 0) (fun (_ : Unit) =>
 some (-1))
theorem slices_Index_lts_step_lts_step.f_ap (fu : Nat) (a0 : List lts_step) (a1_0 : Int) (a1_1 : Bs) (a1_2 : Int) : Ap (slices_Index_lts_step_lts_step.fc fu a0 a1_0 a1_1 a1_2) (slices_Index_lts_step_lts_step.f a0 a1_0 a1_1 a1_2) := by
  unfold slices_Index_lts_step_lts_step.fc slices_Index_lts_step_lts_step.f
  repeat' with_reducible first | exact slices_Index_lts_step_lts_step.l0_ap _ _ _ _ _ _ | refine Ap.jn ?_ fun _ => ?_ | exact Ap.refl _
def slices_Contains_lts_step_lts_step.fc (fu : Nat) (a0 : List lts_step) (a1_0 : Int) (a1_1 : Bs) (a1_2 : Int) : Option Bool :=
 (slices_Index_lts_step_lts_step.fc fu a0 a1_0 a1_1 a1_2).bind fun t254 =>
 some (decide (0 ≤ t254))
theorem slices_Contains_lts_step_lts_step.f_ap (fu : Nat) (a0 : List lts_step) (a1_0 : Int) (a1_1 : Bs) (a1_2 : Int) : Ap (slices_Contains_lts_step_lts_step.fc fu a0 a1_0 a1_1 a1_2) (slices_Contains_lts_step_lts_step.f a0 a1_0 a1_1 a1_2) := by
  unfold slices_Contains_lts_step_lts_step.fc slices_Contains_lts_step_lts_step.f
  repeat' with_reducible first | exact slices_Index_lts_step_lts_step.f_ap _ _ _ _ _ | refine Ap.bind ?_ fun _ => ?_ | exact Ap.refl _
def lts_reader_edge.fc (fu : Nat) (a0_0 : List api_Token) (a0_1 : Option api_Fault) (a0_2 : Int) (a0_3 : List Bs) (a0_4 : List api_Edge) (a0_5 : List api_Prop) (a0_6 : List lts_step) (a0_7 : List (Bs × Bool)) (a1_0 : Int) (a1_1 : Int) (a1_2 : Bs) (a1_3 : Int) : Option ((List lts_step) × (List (Bs × Bool)) × (Option api_Fault) × (List api_Token)) :=
 if 200 ≤ (a0_6.length : Int) then
 (lts_reader_fail.fc fu a0_0 a0_1 a0_2 a0_3 a0_4 a0_5 a0_6 a0_7 a1_0 a1_1 a1_2 a1_3 10).bind fun t269 =>
 (lts_reader_state.fc fu a0_0 t269 a0_2 a0_3 a0_4 a0_5 a0_6 a0_7).bind fun t273 =>
 (lts_reader_named.fc fu t273.2.1 t273.1 a0_2 a0_3 a0_4 a0_5 a0_6 a0_7).bind fun t284 =>
 jn (
 if ((mget a0_7 t284.2.2.2.2.1).getD false) = true then
 some (.inl false)
 else
 some (.inl (decide (8 ≤ (a0_7.length : Int))))) (fun (x495 : Bool) =>
 if x495 = true then
 (lts_reader_fail.fc fu t284.2.1 t284.1 a0_2 a0_3 a0_4 a0_5 a0_6 a0_7 t284.2.2.1 t284.2.2.2.1 t284.2.2.2.2.1 t284.2.2.2.2.2 10).bind fun t501 =>
 (lts_reader_state.fc fu t284.2.1 t501 a0_2 a0_3 a0_4 a0_5 a0_6 a0_7).bind fun t505 =>
 jn (
 if t505.1.isNone = true then
 (slices_Contains_lts_step_lts_step.fc fu a0_6 t273.2.2.1 t284.2.2.2.2.1 t505.2.2.1).bind fun t1168 =>
 some (.inl t1168)
 else
 some (.inl false)) (fun (x723 : Bool) =>
 if x723 = true then
 (lts_reader_fail.fc fu t505.2.1 t505.1 a0_2 a0_3 a0_4 a0_5 a0_6 a0_7 t505.2.2.2.1 t505.2.2.2.2.1 t505.2.2.2.2.2.1 t505.2.2.2.2.2.2 9).bind fun t729 =>
 (lts_reader_end.fc fu t505.2.1 t729 a0_2 a0_3 a0_4 a0_5 a0_6 a0_7).bind fun t733 =>
 if (a0_6.length + ([(⟨t273.2.2.1, t284.2.2.2.2.1, t505.2.2.1⟩ : lts_step)] : List lts_step).length) * 32 ≤ 140737488355328 then
 some ((a0_6 ++ ([(⟨t273.2.2.1, t284.2.2.2.2.1, t505.2.2.1⟩ : lts_step)] : List lts_step)), (mset a0_7 t284.2.2.2.2.1 true), t733, t505.2.1)
 else none
 else
 (lts_reader_end.fc fu t505.2.1 t505.1 a0_2 a0_3 a0_4 a0_5 a0_6 a0_7).bind fun t950 =>
 if (a0_6.length + ([(⟨t273.2.2.1, t284.2.2.2.2.1, t505.2.2.1⟩ : lts_step)] : List lts_step).length) * 32 ≤ 140737488355328 then
 some ((a0_6 ++ ([(⟨t273.2.2.1, t284.2.2.2.2.1, t505.2.2.1⟩ : lts_step)] : List lts_step)), (mset a0_7 t284.2.2.2.2.1 true), t950, t505.2.1)
 else none)
 else
 (lts_reader_state.fc fu t284.2.1 t284.1 a0_2 a0_3 a0_4 a0_5 a0_6 a0_7).bind fun t1170 =>
 jn (
 if t1170.1.isNone = true then
 (slices_Contains_lts_step_lts_step.fc fu a0_6 t273.2.2.1 t284.2.2.2.2.1 t1170.2.2.1).bind fun t1833 =>
 some (.inl t1833)
 else
 some (.inl false)) (fun (x1388 : Bool) =>
 if x1388 = true then
 (lts_reader_fail.fc fu t1170.2.1 t1170.1 a0_2 a0_3 a0_4 a0_5 a0_6 a0_7 t1170.2.2.2.1 t1170.2.2.2.2.1 t1170.2.2.2.2.2.1 t1170.2.2.2.2.2.2 9).bind fun t1394 =>
 (lts_reader_end.fc fu t1170.2.1 t1394 a0_2 a0_3 a0_4 a0_5 a0_6 a0_7).bind fun t1398 =>
 if (a0_6.length + ([(⟨t273.2.2.1, t284.2.2.2.2.1, t1170.2.2.1⟩ : lts_step)] : List lts_step).length) * 32 ≤ 140737488355328 then
 some ((a0_6 ++ ([(⟨t273.2.2.1, t284.2.2.2.2.1, t1170.2.2.1⟩ : lts_step)] : List lts_step)), (mset a0_7 t284.2.2.2.2.1 true), t1398, t1170.2.1)
 else none
 else
 (lts_reader_end.fc fu t1170.2.1 t1170.1 a0_2 a0_3 a0_4 a0_5 a0_6 a0_7).bind fun t1615 =>
 if (a0_6.length + ([(⟨t273.2.2.1, t284.2.2.2.2.1, t1170.2.2.1⟩ : lts_step)] : List lts_step).length) * 32 ≤ 140737488355328 then
 some ((a0_6 ++ ([(⟨t273.2.2.1, t284.2.2.2.2.1, t1170.2.2.1⟩ : lts_step)] : List lts_step)), (mset a0_7 t284.2.2.2.2.1 true), t1615, t1170.2.1)
 else none))
 else
 (lts_reader_state.fc fu a0_0 a0_1 a0_2 a0_3 a0_4 a0_5 a0_6 a0_7).bind fun t1836 =>
 (lts_reader_named.fc fu t1836.2.1 t1836.1 a0_2 a0_3 a0_4 a0_5 a0_6 a0_7).bind fun t1847 =>
 jn (
 if ((mget a0_7 t1847.2.2.2.2.1).getD false) = true then
 some (.inl false)
 else
 some (.inl (decide (8 ≤ (a0_7.length : Int))))) (fun (x2058 : Bool) =>
 if x2058 = true then
 (lts_reader_fail.fc fu t1847.2.1 t1847.1 a0_2 a0_3 a0_4 a0_5 a0_6 a0_7 t1847.2.2.1 t1847.2.2.2.1 t1847.2.2.2.2.1 t1847.2.2.2.2.2 10).bind fun t2064 =>
 (lts_reader_state.fc fu t1847.2.1 t2064 a0_2 a0_3 a0_4 a0_5 a0_6 a0_7).bind fun t2068 =>
 jn (
 if t2068.1.isNone = true then
 (slices_Contains_lts_step_lts_step.fc fu a0_6 t1836.2.2.1 t1847.2.2.2.2.1 t2068.2.2.1).bind fun t2731 =>
 some (.inl t2731)
 else
 some (.inl false)) (fun (x2286 : Bool) =>
 if x2286 = true then
 (lts_reader_fail.fc fu t2068.2.1 t2068.1 a0_2 a0_3 a0_4 a0_5 a0_6 a0_7 t2068.2.2.2.1 t2068.2.2.2.2.1 t2068.2.2.2.2.2.1 t2068.2.2.2.2.2.2 9).bind fun t2292 =>
 (lts_reader_end.fc fu t2068.2.1 t2292 a0_2 a0_3 a0_4 a0_5 a0_6 a0_7).bind fun t2296 =>
 if (a0_6.length + ([(⟨t1836.2.2.1, t1847.2.2.2.2.1, t2068.2.2.1⟩ : lts_step)] : List lts_step).length) * 32 ≤ 140737488355328 then
 some ((a0_6 ++ ([(⟨t1836.2.2.1, t1847.2.2.2.2.1, t2068.2.2.1⟩ : lts_step)] : List lts_step)), (mset a0_7 t1847.2.2.2.2.1 true), t2296, t2068.2.1)
 else none
 else
 (lts_reader_end.fc fu t2068.2.1 t2068.1 a0_2 a0_3 a0_4 a0_5 a0_6 a0_7).bind fun t2513 =>
 if (a0_6.length + ([(⟨t1836.2.2.1, t1847.2.2.2.2.1, t2068.2.2.1⟩ : lts_step)] : List lts_step).length) * 32 ≤ 140737488355328 then
 some ((a0_6 ++ ([(⟨t1836.2.2.1, t1847.2.2.2.2.1, t2068.2.2.1⟩ : lts_step)] : List lts_step)), (mset a0_7 t1847.2.2.2.2.1 true), t2513, t2068.2.1)
 else none)
 else
 (lts_reader_state.fc fu t1847.2.1 t1847.1 a0_2 a0_3 a0_4 a0_5 a0_6 a0_7).bind fun t2733 =>
 jn (
 if t2733.1.isNone = true then
 (slices_Contains_lts_step_lts_step.fc fu a0_6 t1836.2.2.1 t1847.2.2.2.2.1 t2733.2.2.1).bind fun t3396 =>
 some (.inl t3396)
 else
 some (.inl false)) (fun (x2951 : Bool) =>
 if x2951 = true then
 (lts_reader_fail.fc fu t2733.2.1 t2733.1 a0_2 a0_3 a0_4 a0_5 a0_6 a0_7 t2733.2.2.2.1 t2733.2.2.2.2.1 t2733.2.2.2.2.2.1 t2733.2.2.2.2.2.2 9).bind fun t2957 =>
 (lts_reader_end.fc fu t2733.2.1 t2957 a0_2 a0_3 a0_4 a0_5 a0_6 a0_7).bind fun t2961 =>
 if (a0_6.length + ([(⟨t1836.2.2.1, t1847.2.2.2.2.1, t2733.2.2.1⟩ : lts_step)] : List lts_step).length) * 32 ≤ 140737488355328 then
 some ((a0_6 ++ ([(⟨t1836.2.2.1, t1847.2.2.2.2.1, t2733.2.2.1⟩ : lts_step)] : List lts_step)), (mset a0_7 t1847.2.2.2.2.1 true), t2961, t2733.2.1)
 else none
 else
 (lts_reader_end.fc fu t2733.2.1 t2733.1 a0_2 a0_3 a0_4 a0_5 a0_6 a0_7).bind fun t3178 =>
 if (a0_6.length + ([(⟨t1836.2.2.1, t1847.2.2.2.2.1, t2733.2.2.1⟩ : lts_step)] : List lts_step).length) * 32 ≤ 140737488355328 then
 some ((a0_6 ++ ([(⟨t1836.2.2.1, t1847.2.2.2.2.1, t2733.2.2.1⟩ : lts_step)] : List lts_step)), (mset a0_7 t1847.2.2.2.2.1 true), t3178, t2733.2.1)
 else none))
theorem lts_reader_edge.f_ap (fu : Nat) (a0_0 : List api_Token) (a0_1 : Option api_Fault) (a0_2 : Int) (a0_3 : List Bs) (a0_4 : List api_Edge) (a0_5 : List api_Prop) (a0_6 : List lts_step) (a0_7 : List (Bs × Bool)) (a1_0 : Int) (a1_1 : Int) (a1_2 : Bs) (a1_3 : Int) : Ap (lts_reader_edge.fc fu a0_0 a0_1 a0_2 a0_3 a0_4 a0_5 a0_6 a0_7 a1_0 a1_1 a1_2 a1_3) (lts_reader_edge.f a0_0 a0_1 a0_2 a0_3 a0_4 a0_5 a0_6 a0_7 a1_0 a1_1 a1_2 a1_3) := by
  unfold lts_reader_edge.fc lts_reader_edge.f
  repeat' with_reducible first | exact lts_reader_fail.f_ap _ _ _ _ _ _ _ _ _ _ _ _ _ _ | exact lts_reader_state.f_ap _ _ _ _ _ _ _ _ _ | exact lts_reader_named.f_ap _ _ _ _ _ _ _ _ _ | exact slices_Contains_lts_step_lts_step.f_ap _ _ _ _ _ | exact lts_reader_end.f_ap _ _ _ _ _ _ _ _ _ | exact Ap.none | refine Ap.jn ?_ fun _ => ?_ | refine Ap.ite ?_ ?_ | refine Ap.bind ?_ fun _ => ?_ | exact Ap.refl _
def lts_reader_mark_1.fc (fu : Nat) (a0_0 : Bs) (a0_1 : List Int) (a1_0 : Int) (a1_1 : Int) (a1_2 : Bs) (a1_3 : Int) : Option Bool :=
 some (bseqC a0_0 a1_2)
theorem lts_reader_mark_1.f_ap (fu : Nat) (a0_0 : Bs) (a0_1 : List Int) (a1_0 : Int) (a1_1 : Int) (a1_2 : Bs) (a1_3 : Int) : Ap (lts_reader_mark_1.fc fu a0_0 a0_1 a1_0 a1_1 a1_2 a1_3) (lts_reader_mark_1.f a0_0 a0_1 a1_0 a1_1 a1_2 a1_3) := by
  unfold lts_reader_mark_1.fc lts_reader_mark_1.f
  rw [bseq_bseqC]
  repeat' with_reducible first | exact Ap.refl _
def slices_IndexFunc_api_Prop_api_Prop.l0bc (fu : Nat) (a0 : List api_Prop) (a1_c0_0 : Int) (a1_c0_1 : Int) (a1_c0_2 : Bs) (a1_c0_3 : Int) (x853 : Int) : Option ((Int) ⊕ ((Unit) ⊕ (Int))) :=
 if x853 < (a0.length : Int) then
 if (0 : Int) ≤ x853 ∧ x853 < (a0.length : Int) then
 (lts_reader_mark_1.fc fu ((gt a0 x853).Name) ((gt a0 x853).States) a1_c0_0 a1_c0_1 a1_c0_2 a1_c0_3).bind fun t1074 =>
 if t1074 = true then
 upL (some x853)
 else
 nx (IntKind.i64.wrap (x853 + 1))
 else none
 else
 dn (.inl ())
theorem slices_IndexFunc_api_Prop_api_Prop.l0b_ap (fu : Nat) (a0 : List api_Prop) (a1_c0_0 : Int) (a1_c0_1 : Int) (a1_c0_2 : Bs) (a1_c0_3 : Int) (x853 : Int) : Ap (slices_IndexFunc_api_Prop_api_Prop.l0bc fu a0 a1_c0_0 a1_c0_1 a1_c0_2 a1_c0_3 x853) (slices_IndexFunc_api_Prop_api_Prop.l0b a0 a1_c0_0 a1_c0_1 a1_c0_2 a1_c0_3 x853) := by
  unfold slices_IndexFunc_api_Prop_api_Prop.l0bc slices_IndexFunc_api_Prop_api_Prop.l0b
  repeat' with_reducible first | exact lts_reader_mark_1.f_ap _ _ _ _ _ _ _ | exact Ap.none | refine Ap.ite ?_ ?_ | refine Ap.upL ?_ | refine Ap.bind ?_ fun _ => ?_ | exact Ap.refl _
def slices_IndexFunc_api_Prop_api_Prop.l0c (fu : Nat) (a0 : List api_Prop) (a1_c0_0 : Int) (a1_c0_1 : Int) (a1_c0_2 : Bs) (a1_c0_3 : Int) (x853 : Int) : Option ((Unit) ⊕ (Int)) := iterC fu (fun t_ : Int => slices_IndexFunc_api_Prop_api_Prop.l0bc fu a0 a1_c0_0 a1_c0_1 a1_c0_2 a1_c0_3 t_) x853
theorem slices_IndexFunc_api_Prop_api_Prop.l0_ap (fu : Nat) (a0 : List api_Prop) (a1_c0_0 : Int) (a1_c0_1 : Int) (a1_c0_2 : Bs) (a1_c0_3 : Int) (x853 : Int) : Ap (slices_IndexFunc_api_Prop_api_Prop.l0c fu a0 a1_c0_0 a1_c0_1 a1_c0_2 a1_c0_3 x853) (slices_IndexFunc_api_Prop_api_Prop.l0 a0 a1_c0_0 a1_c0_1 a1_c0_2 a1_c0_3 x853) := by
  unfold slices_IndexFunc_api_Prop_api_Prop.l0c slices_IndexFunc_api_Prop_api_Prop.l0
  repeat' with_reducible first | exact slices_IndexFunc_api_Prop_api_Prop.l0b_ap _ _ _ _ _ _ _ | refine Ap.iter fun _ => ?_ | exact Ap.refl _
def slices_IndexFunc_api_Prop_api_Prop.fc (fu : Nat) (a0 : List api_Prop) (a1_c0_0 : Int) (a1_c0_1 : Int) (a1_c0_2 : Bs) (a1_c0_3 : Int) : Option Int :=
 jn (slices_IndexFunc_api_Prop_api_Prop.l0c fu a0 a1_c0_0 a1_c0_1 a1_c0_2 a1_c0_3 0) (fun (_ : Unit) =>
 some (-1))
theorem slices_IndexFunc_api_Prop_api_Prop.f_ap (fu : Nat) (a0 : List api_Prop) (a1_c0_0 : Int) (a1_c0_1 : Int) (a1_c0_2 : Bs) (a1_c0_3 : Int) : Ap (slices_IndexFunc_api_Prop_api_Prop.fc fu a0 a1_c0_0 a1_c0_1 a1_c0_2 a1_c0_3) (slices_IndexFunc_api_Prop_api_Prop.f a0 a1_c0_0 a1_c0_1 a1_c0_2 a1_c0_3) := by
  unfold slices_IndexFunc_api_Prop_api_Prop.fc slices_IndexFunc_api_Prop_api_Prop.f
  repeat' with_reducible first | exact slices_IndexFunc_api_Prop_api_Prop.l0_ap _ _ _ _ _ _ _ | refine Ap.jn ?_ fun _ => ?_ | exact Ap.refl _
def slices_ContainsFunc_api_Prop_api_Prop.fc (fu : Nat) (a0 : List api_Prop) (a1_c0_0 : Int) (a1_c0_1 : Int) (a1_c0_2 : Bs) (a1_c0_3 : Int) : Option Bool :=
 (slices_IndexFunc_api_Prop_api_Prop.fc fu a0 a1_c0_0 a1_c0_1 a1_c0_2 a1_c0_3).bind fun t252 =>
 some (decide (0 ≤ t252))
theorem slices_ContainsFunc_api_Prop_api_Prop.f_ap (fu : Nat) (a0 : List api_Prop) (a1_c0_0 : Int) (a1_c0_1 : Int) (a1_c0_2 : Bs) (a1_c0_3 : Int) : Ap (slices_ContainsFunc_api_Prop_api_Prop.fc fu a0 a1_c0_0 a1_c0_1 a1_c0_2 a1_c0_3) (slices_ContainsFunc_api_Prop_api_Prop.f a0 a1_c0_0 a1_c0_1 a1_c0_2 a1_c0_3) := by
  unfold slices_ContainsFunc_api_Prop_api_Prop.fc slices_ContainsFunc_api_Prop_api_Prop.f
  repeat' with_reducible first | exact slices_IndexFunc_api_Prop_api_Prop.f_ap _ _ _ _ _ _ | refine Ap.bind ?_ fun _ => ?_ | exact Ap.refl _
def slices_Index_int_int.l0bc (fu : Nat) (a0 : List Int) (a1 : Int) (x853 : Int) : Option ((Int) ⊕ ((Unit) ⊕ (Int))) :=
 if x853 < (a0.length : Int) then
 if (0 : Int) ≤ x853 ∧ x853 < (a0.length : Int) then
 if a1 = gt a0 x853 then
 upL (some x853)
 else
 nx (IntKind.i64.wrap (x853 + 1))
 else none
 else
 dn (.inl ())
theorem slices_Index_int_int.l0b_ap (fu : Nat) (a0 : List Int) (a1 : Int) (x853 : Int) : Ap (slices_Index_int_int.l0bc fu a0 a1 x853) (slices_Index_int_int.l0b a0 a1 x853) := by
  unfold slices_Index_int_int.l0bc slices_Index_int_int.l0b
  repeat' with_reducible first | exact Ap.none | refine Ap.ite ?_ ?_ | refine Ap.upL ?_ | exact Ap.refl _
def slices_Index_int_int.l0c (fu : Nat) (a0 : List Int) (a1 : Int) (x853 : Int) : Option ((Unit) ⊕ (Int)) := iterC fu (fun t_ : Int => slices_Index_int_int.l0bc fu a0 a1 t_) x853
theorem slices_Index_int_int.l0_ap (fu : Nat) (a0 : List Int) (a1 : Int) (x853 : Int) : Ap (slices_Index_int_int.l0c fu a0 a1 x853) (slices_Index_int_int.l0 a0 a1 x853) := by
  unfold slices_Index_int_int.l0c slices_Index_int_int.l0
  repeat' with_reducible first | exact slices_Index_int_int.l0b_ap _ _ _ _ | refine Ap.iter fun _ => ?_ | exact Ap.refl _
def slices_Index_int_int.fc (fu : Nat) (a0 : List Int) (a1 : Int) : Option Int :=
 jn (slices_Index_int_int.l0c fu a0 a1 0) (fun (_ : Unit) =>
 some (-1))
theorem slices_Index_int_int.f_ap (fu : Nat) (a0 : List Int) (a1 : Int) : Ap (slices_Index_int_int.fc fu a0 a1) (slices_Index_int_int.f a0 a1) := by
  unfold slices_Index_int_int.fc slices_Index_int_int.f
  repeat' with_reducible first | exact slices_Index_int_int.l0_ap _ _ _ _ | refine Ap.jn ?_ fun _ => ?_ | exact Ap.refl _
def slices_Contains_int_int.fc (fu : Nat) (a0 : List Int) (a1 : Int) : Option Bool :=
 (slices_Index_int_int.fc fu a0 a1).bind fun t252 =>
 some (decide (0 ≤ t252))
theorem slices_Contains_int_int.f_ap (fu : Nat) (a0 : List Int) (a1 : Int) : Ap (slices_Contains_int_int.fc fu a0 a1) (slices_Contains_int_int.f a0 a1) := by
  unfold slices_Contains_int_int.fc slices_Contains_int_int.f
  repeat' with_reducible first | exact slices_Index_int_int.f_ap _ _ _ | refine Ap.bind ?_ fun _ => ?_ | exact Ap.refl _
def slices_Sort_int_int.fc (fu : Nat) (a0 : List Int) : Option (List Int) := soloC a0
theorem slices_Sort_int_int.f_ap (fu : Nat) (a0 : List Int) : Ap (slices_Sort_int_int.fc fu a0) (slices_Sort_int_int.f a0) := fun r h => by
  obtain ⟨rfl, h⟩ := solo_mem h
  rcases h with rfl | ⟨x, rfl⟩ <;> simp [slices_Sort_int_int.f]
def lts_reader_mark.l0bc (fu : Nat) (a0_2 : Int) (a0_3 : List Bs) (a0_4 : List api_Edge) (a0_5 : List api_Prop) (a0_6 : List lts_step) (a0_7 : List (Bs × Bool)) (x1101 : List Int) (x1107 : Option api_Fault) (x1111 : List api_Token) : Option (((List Int) × (Option api_Fault) × (List api_Token)) ⊕ (((Option api_Fault) × (List Int) × (List api_Token)) ⊕ ((List api_Prop) × (Option api_Fault) × (List api_Token)))) :=
 jn (
 if x1107.isNone = true then
 (lts_reader_ends.fc fu x1111 x1107 a0_2 a0_3 a0_4 a0_5 a0_6 a0_7).bind fun t2005 =>
 some (.inl (!t2005))
 else
 some (.inl false)) (fun (x1756 : Bool) =>
 if x1756 = true then
 (lts_reader_state.fc fu x1111 x1107 a0_2 a0_3 a0_4 a0_5 a0_6 a0_7).bind fun t1762 =>
 jn (
 if t1762.1.isNone = true then
 (slices_Contains_int_int.fc fu x1101 t1762.2.2.1).bind fun t2002 =>
 some (.inl t2002)
 else
 some (.inl false)) (fun (x1973 : Bool) =>
 if x1973 = true then
 (lts_reader_fail.fc fu t1762.2.1 t1762.1 a0_2 a0_3 a0_4 a0_5 a0_6 a0_7 t1762.2.2.2.1 t1762.2.2.2.2.1 t1762.2.2.2.2.2.1 t1762.2.2.2.2.2.2 9).bind fun t1979 =>
 if (x1101.length + ([t1762.2.2.1] : List Int).length) * 8 ≤ 140737488355328 then
 nx ((x1101 ++ ([t1762.2.2.1] : List Int)), t1979, t1762.2.1)
 else none
 else
 if (x1101.length + ([t1762.2.2.1] : List Int).length) * 8 ≤ 140737488355328 then
 nx ((x1101 ++ ([t1762.2.2.1] : List Int)), t1762.1, t1762.2.1)
 else none)
 else
 dn (.inl (x1107, x1101, x1111)))
theorem lts_reader_mark.l0b_ap (fu : Nat) (a0_2 : Int) (a0_3 : List Bs) (a0_4 : List api_Edge) (a0_5 : List api_Prop) (a0_6 : List lts_step) (a0_7 : List (Bs × Bool)) (x1101 : List Int) (x1107 : Option api_Fault) (x1111 : List api_Token) : Ap (lts_reader_mark.l0bc fu a0_2 a0_3 a0_4 a0_5 a0_6 a0_7 x1101 x1107 x1111) (lts_reader_mark.l0b a0_2 a0_3 a0_4 a0_5 a0_6 a0_7 x1101 x1107 x1111) := by
  unfold lts_reader_mark.l0bc lts_reader_mark.l0b
  repeat' with_reducible first | exact lts_reader_ends.f_ap _ _ _ _ _ _ _ _ _ | exact lts_reader_state.f_ap _ _ _ _ _ _ _ _ _ | exact slices_Contains_int_int.f_ap _ _ _ | exact lts_reader_fail.f_ap _ _ _ _ _ _ _ _ _ _ _ _ _ _ | exact Ap.none | refine Ap.jn ?_ fun _ => ?_ | refine Ap.ite ?_ ?_ | refine Ap.bind ?_ fun _ => ?_ | exact Ap.refl _
def lts_reader_mark.l0c (fu : Nat) (a0_2 : Int) (a0_3 : List Bs) (a0_4 : List api_Edge) (a0_5 : List api_Prop) (a0_6 : List lts_step) (a0_7 : List (Bs × Bool)) (x1101 : List Int) (x1107 : Option api_Fault) (x1111 : List api_Token) : Option (((Option api_Fault) × (List Int) × (List api_Token)) ⊕ ((List api_Prop) × (Option api_Fault) × (List api_Token))) := iterC fu (fun t_ : (List Int) × (Option api_Fault) × (List api_Token) => lts_reader_mark.l0bc fu a0_2 a0_3 a0_4 a0_5 a0_6 a0_7 t_.1 t_.2.1 t_.2.2) (x1101, x1107, x1111)
theorem lts_reader_mark.l0_ap (fu : Nat) (a0_2 : Int) (a0_3 : List Bs) (a0_4 : List api_Edge) (a0_5 : List api_Prop) (a0_6 : List lts_step) (a0_7 : List (Bs × Bool)) (x1101 : List Int) (x1107 : Option api_Fault) (x1111 : List api_Token) : Ap (lts_reader_mark.l0c fu a0_2 a0_3 a0_4 a0_5 a0_6 a0_7 x1101 x1107 x1111) (lts_reader_mark.l0 a0_2 a0_3 a0_4 a0_5 a0_6 a0_7 x1101 x1107 x1111) := by
  unfold lts_reader_mark.l0c lts_reader_mark.l0
  repeat' with_reducible first | exact lts_reader_mark.l0b_ap _ _ _ _ _ _ _ _ _ _ | refine Ap.iter fun _ => ?_ | exact Ap.refl _
def lts_reader_mark.fc (fu : Nat) (a0_0 : List api_Token) (a0_1 : Option api_Fault) (a0_2 : Int) (a0_3 : List Bs) (a0_4 : List api_Edge) (a0_5 : List api_Prop) (a0_6 : List lts_step) (a0_7 : List (Bs × Bool)) : Option ((List api_Prop) × (Option api_Fault) × (List api_Token)) :=
 (lts_reader_named.fc fu a0_0 a0_1 a0_2 a0_3 a0_4 a0_5 a0_6 a0_7).bind fun t270 =>
 jn (
 if t270.1.isNone = true then
 if 8 ≤ (a0_5.length : Int) then
 (lts_reader_fail.fc fu t270.2.1 t270.1 a0_2 a0_3 a0_4 a0_5 a0_6 a0_7 t270.2.2.1 t270.2.2.2.1 t270.2.2.2.2.1 t270.2.2.2.2.2 10).bind fun t2009 =>
 some (.inl t2009)
 else
 (slices_ContainsFunc_api_Prop_api_Prop.fc fu a0_5 t270.2.2.1 t270.2.2.2.1 t270.2.2.2.2.1 t270.2.2.2.2.2).bind fun t2019 =>
 if t2019 = true then
 (lts_reader_fail.fc fu t270.2.1 t270.1 a0_2 a0_3 a0_4 a0_5 a0_6 a0_7 t270.2.2.1 t270.2.2.2.1 t270.2.2.2.2.1 t270.2.2.2.2.2 9).bind fun t2022 =>
 some (.inl t2022)
 else
 some (.inl t270.1)
 else
 up (some (a0_5, t270.1, t270.2.1))) (fun (x486 : Option api_Fault) =>
 jn (lts_reader_mark.l0c fu a0_2 a0_3 a0_4 a0_5 a0_6 a0_7 ([] : List Int) x486 t270.2.1) (fun (s_ : (Option api_Fault) × (List Int) × (List api_Token)) =>
 (slices_Sort_int_int.fc fu s_.2.1).bind fun t1340 =>
 if (a0_5.length + 1) * 40 ≤ 140737488355328 then
 some ((a0_5 ++ [(⟨t270.2.2.2.2.1, t1340⟩ : api_Prop)]), s_.1, s_.2.2)
 else none))
theorem lts_reader_mark.f_ap (fu : Nat) (a0_0 : List api_Token) (a0_1 : Option api_Fault) (a0_2 : Int) (a0_3 : List Bs) (a0_4 : List api_Edge) (a0_5 : List api_Prop) (a0_6 : List lts_step) (a0_7 : List (Bs × Bool)) : Ap (lts_reader_mark.fc fu a0_0 a0_1 a0_2 a0_3 a0_4 a0_5 a0_6 a0_7) (lts_reader_mark.f a0_0 a0_1 a0_2 a0_3 a0_4 a0_5 a0_6 a0_7) := by
  unfold lts_reader_mark.fc lts_reader_mark.f
  repeat' with_reducible first | exact lts_reader_named.f_ap _ _ _ _ _ _ _ _ _ | exact lts_reader_fail.f_ap _ _ _ _ _ _ _ _ _ _ _ _ _ _ | exact slices_ContainsFunc_api_Prop_api_Prop.f_ap _ _ _ _ _ _ | exact lts_reader_mark.l0_ap _ _ _ _ _ _ _ _ _ _ | exact slices_Sort_int_int.f_ap _ _ | exact Ap.none | refine Ap.jn ?_ fun _ => ?_ | refine Ap.ite ?_ ?_ | refine Ap.up ?_ | refine Ap.bind ?_ fun _ => ?_ | exact Ap.refl _
def slices_Sort_string_string.fc (fu : Nat) (a0 : List Bs) : Option (List Bs) := soloC a0
theorem slices_Sort_string_string.f_ap (fu : Nat) (a0 : List Bs) : Ap (slices_Sort_string_string.fc fu a0) (slices_Sort_string_string.f a0) := fun r h => by
  obtain ⟨rfl, h⟩ := solo_mem h
  rcases h with rfl | ⟨x, rfl⟩ <;> simp [slices_Sort_string_string.f]
def slices_Index_string_string.l0bc (fu : Nat) (a0 : List Bs) (a1 : Bs) (x853 : Int) : Option ((Int) ⊕ ((Unit) ⊕ (Int))) :=
 if x853 < (a0.length : Int) then
 if (0 : Int) ≤ x853 ∧ x853 < (a0.length : Int) then
 if bseqC a1 (gt a0 x853) = true then
 upL (some x853)
 else
 nx (IntKind.i64.wrap (x853 + 1))
 else none
 else
 dn (.inl ())
theorem slices_Index_string_string.l0b_ap (fu : Nat) (a0 : List Bs) (a1 : Bs) (x853 : Int) : Ap (slices_Index_string_string.l0bc fu a0 a1 x853) (slices_Index_string_string.l0b a0 a1 x853) := by
  unfold slices_Index_string_string.l0bc slices_Index_string_string.l0b
  rw [bseq_bseqC]
  repeat' with_reducible first | exact Ap.none | refine Ap.ite ?_ ?_ | refine Ap.upL ?_ | exact Ap.refl _
def slices_Index_string_string.l0c (fu : Nat) (a0 : List Bs) (a1 : Bs) (x853 : Int) : Option ((Unit) ⊕ (Int)) := iterC fu (fun t_ : Int => slices_Index_string_string.l0bc fu a0 a1 t_) x853
theorem slices_Index_string_string.l0_ap (fu : Nat) (a0 : List Bs) (a1 : Bs) (x853 : Int) : Ap (slices_Index_string_string.l0c fu a0 a1 x853) (slices_Index_string_string.l0 a0 a1 x853) := by
  unfold slices_Index_string_string.l0c slices_Index_string_string.l0
  repeat' with_reducible first | exact slices_Index_string_string.l0b_ap _ _ _ _ | refine Ap.iter fun _ => ?_ | exact Ap.refl _
def slices_Index_string_string.fc (fu : Nat) (a0 : List Bs) (a1 : Bs) : Option Int :=
 jn (slices_Index_string_string.l0c fu a0 a1 0) (fun (_ : Unit) =>
 some (-1))
theorem slices_Index_string_string.f_ap (fu : Nat) (a0 : List Bs) (a1 : Bs) : Ap (slices_Index_string_string.fc fu a0 a1) (slices_Index_string_string.f a0 a1) := by
  unfold slices_Index_string_string.fc slices_Index_string_string.f
  repeat' with_reducible first | exact slices_Index_string_string.l0_ap _ _ _ _ | refine Ap.jn ?_ fun _ => ?_ | exact Ap.refl _
def slices_SortFunc_api_Edge_api_Edge.fc (fu : Nat) (a0 : List api_Edge) : Option (List api_Edge) := soloC a0
theorem slices_SortFunc_api_Edge_api_Edge.f_ap (fu : Nat) (a0 : List api_Edge) : Ap (slices_SortFunc_api_Edge_api_Edge.fc fu a0) (slices_SortFunc_api_Edge_api_Edge.f a0) := fun r h => by
  obtain ⟨rfl, h⟩ := solo_mem h
  rcases h with rfl | ⟨x, rfl⟩ <;> simp [slices_SortFunc_api_Edge_api_Edge.f, byCmp, CmpParts, edge_tot]
def slices_SortFunc_api_Prop_api_Prop.fc (fu : Nat) (a0 : List api_Prop) : Option (List api_Prop) := soloC a0
theorem slices_SortFunc_api_Prop_api_Prop.f_ap (fu : Nat) (a0 : List api_Prop) : Ap (slices_SortFunc_api_Prop_api_Prop.fc fu a0) (slices_SortFunc_api_Prop_api_Prop.f a0) := fun r h => by
  obtain ⟨rfl, h⟩ := solo_mem h
  rcases h with rfl | ⟨x, rfl⟩ <;> simp [slices_SortFunc_api_Prop_api_Prop.f, byCmp, CmpParts, prop_swo]
def lts_reader_system.l1bc (fu : Nat) (a0_6 : List lts_step) (t1103 : List Bs) (x1712 : List api_Edge) (x1718 : Int) : Option (((List api_Edge) × Int) ⊕ (((List api_Edge)) ⊕ ((List api_Prop) × (List api_Edge) × (List Bs) × Int))) :=
 if x1718 < (a0_6.length : Int) then
 if (0 : Int) ≤ x1718 ∧ x1718 < (a0_6.length : Int) then
 (slices_Index_string_string.fc fu t1103 ((gt a0_6 x1718).action)).bind fun t1953 =>
 if (x1712.length + ([(⟨(gt a0_6 x1718).from_, t1953, (gt a0_6 x1718).to⟩ : api_Edge)] : List api_Edge).length) * 24 ≤ 140737488355328 then
 nx ((x1712 ++ ([(⟨(gt a0_6 x1718).from_, t1953, (gt a0_6 x1718).to⟩ : api_Edge)] : List api_Edge)), IntKind.i64.wrap (x1718 + 1))
 else none
 else none
 else
 dn (.inl x1712)
theorem lts_reader_system.l1b_ap (fu : Nat) (a0_6 : List lts_step) (t1103 : List Bs) (x1712 : List api_Edge) (x1718 : Int) : Ap (lts_reader_system.l1bc fu a0_6 t1103 x1712 x1718) (lts_reader_system.l1b a0_6 t1103 x1712 x1718) := by
  unfold lts_reader_system.l1bc lts_reader_system.l1b
  repeat' with_reducible first | exact slices_Index_string_string.f_ap _ _ _ | exact Ap.none | refine Ap.ite ?_ ?_ | refine Ap.bind ?_ fun _ => ?_ | exact Ap.refl _
def lts_reader_system.l1c (fu : Nat) (a0_6 : List lts_step) (t1103 : List Bs) (x1712 : List api_Edge) (x1718 : Int) : Option (((List api_Edge)) ⊕ ((List api_Prop) × (List api_Edge) × (List Bs) × Int)) := iterC fu (fun t_ : (List api_Edge) × Int => lts_reader_system.l1bc fu a0_6 t1103 t_.1 t_.2) (x1712, x1718)
theorem lts_reader_system.l1_ap (fu : Nat) (a0_6 : List lts_step) (t1103 : List Bs) (x1712 : List api_Edge) (x1718 : Int) : Ap (lts_reader_system.l1c fu a0_6 t1103 x1712 x1718) (lts_reader_system.l1 a0_6 t1103 x1712 x1718) := by
  unfold lts_reader_system.l1c lts_reader_system.l1
  repeat' with_reducible first | exact lts_reader_system.l1b_ap _ _ _ _ _ | refine Ap.iter fun _ => ?_ | exact Ap.refl _
def lts_reader_system.l0bc (fu : Nat) (z1097 : Bs × Bool) (x878 : List Bs) : Option ((List Bs)) :=
 if (x878.length + ([z1097.1] : List Bs).length) * 16 ≤ 140737488355328 then
 some (x878 ++ ([z1097.1] : List Bs))
 else none
theorem lts_reader_system.l0b_ap (fu : Nat) (z1097 : Bs × Bool) (x878 : List Bs) : Ap (lts_reader_system.l0bc fu z1097 x878) (lts_reader_system.l0b z1097 x878) := by
  unfold lts_reader_system.l0bc lts_reader_system.l0b
  repeat' with_reducible first | exact Ap.none | refine Ap.ite ?_ ?_ | exact Ap.refl _
def lts_reader_system.fc (fu : Nat) (a0_0 : List api_Token) (a0_1 : Option api_Fault) (a0_2 : Int) (a0_3 : List Bs) (a0_4 : List api_Edge) (a0_5 : List api_Prop) (a0_6 : List lts_step) (a0_7 : List (Bs × Bool)) : Option ((List api_Prop) × (List api_Edge) × (List Bs) × Int) :=
 orderedC a0_7 (fun (t_ : (List Bs)) (z_ : Bs × Bool) => lts_reader_system.l0bc fu  z_ t_) a0_3 (fun x878 => x878) (fun (x1084 : List Bs) =>
 (slices_Sort_string_string.fc fu x1084).bind fun t1103 =>
 jn (lts_reader_system.l1c fu a0_6 t1103 a0_4 0) (fun (x1919 : List api_Edge) =>
 (slices_SortFunc_api_Edge_api_Edge.fc fu x1919).bind fun t1936 =>
 (slices_SortFunc_api_Prop_api_Prop.fc fu a0_5).bind fun t1938 =>
 some (t1938, t1936, t1103, a0_2)))
theorem lts_reader_system.f_ap (fu : Nat) (a0_0 : List api_Token) (a0_1 : Option api_Fault) (a0_2 : Int) (a0_3 : List Bs) (a0_4 : List api_Edge) (a0_5 : List api_Prop) (a0_6 : List lts_step) (a0_7 : List (Bs × Bool)) : Ap (lts_reader_system.fc fu a0_0 a0_1 a0_2 a0_3 a0_4 a0_5 a0_6 a0_7) (lts_reader_system.f a0_0 a0_1 a0_2 a0_3 a0_4 a0_5 a0_6 a0_7) := by
  unfold lts_reader_system.fc lts_reader_system.f
  repeat' with_reducible first | exact lts_reader_system.l0b_ap _ _ _ | exact slices_Sort_string_string.f_ap _ _ | exact lts_reader_system.l1_ap _ _ _ _ _ | exact slices_SortFunc_api_Edge_api_Edge.f_ap _ _ | exact slices_SortFunc_api_Prop_api_Prop.f_ap _ _ | refine Ap.jn ?_ fun _ => ?_ | refine Ap.ordered (fun _ _ => ?_) fun _ => ?_ | refine Ap.bind ?_ fun _ => ?_ | exact Ap.refl _
def lts_Parse.l0bc (fu : Nat) (t307 : (Option api_Fault) × (List api_Token) × Int) (x938 : Option api_Fault) (x939 : List api_Prop) (x944 : List lts_step) (x949 : List (Bs × Bool)) (x953 : List api_Token) : Option (((Option api_Fault) × (List api_Prop) × (List lts_step) × (List (Bs × Bool)) × (List api_Token)) ⊕ (((Option api_Fault) × (List api_Prop) × (List lts_step) × (List (Bs × Bool)) × (List api_Token)) ⊕ ((Option api_Fault) × (List Bs) × (List api_Edge) × (List api_Prop) × Int))) :=
 if x938.isNone = true then
 (lts_reader_blank.fc fu x953 x938 t307.2.2 ([] : List Bs) ([] : List api_Edge) x939 x944 x949).bind fun t1207 =>
 if (0 : Int) ≤ 0 ∧ 0 < (t1207.length : Int) then
 if (gt t1207 0).Kind = 0 then
 dn (.inl (x938, x939, x944, x949, t1207))
 else
 (lts_reader_want.fc fu t1207 x938 t307.2.2 ([] : List Bs) ([] : List api_Edge) x939 x944 x949 2).bind fun t1217 =>
 if t1217.1.isNone = true then
 if bseqC t1217.2.2.2.2.1 ([101, 100, 103, 101] : Bs) = true then
 (lts_reader_edge.fc fu t1217.2.1 t1217.1 t307.2.2 ([] : List Bs) ([] : List api_Edge) x939 x944 x949 t1217.2.2.1 t1217.2.2.2.1 t1217.2.2.2.2.1 t1217.2.2.2.2.2).bind fun t1230 =>
 nx (t1230.2.2.1, x939, t1230.1, t1230.2.1, t1230.2.2.2)
 else
 if bseqC t1217.2.2.2.2.1 ([109, 97, 114, 107] : Bs) = true then
 (lts_reader_mark.fc fu t1217.2.1 t1217.1 t307.2.2 ([] : List Bs) ([] : List api_Edge) x939 x944 x949).bind fun t1245 =>
 nx (t1245.2.1, t1245.1, x944, x949, t1245.2.2)
 else
 (lts_reader_fail.fc fu t1217.2.1 t1217.1 t307.2.2 ([] : List Bs) ([] : List api_Edge) x939 x944 x949 t1217.2.2.1 t1217.2.2.2.1 t1217.2.2.2.2.1 t1217.2.2.2.2.2 7).bind fun t1259 =>
 nx (t1259, x939, x944, x949, t1217.2.1)
 else
 nx (t1217.1, x939, x944, x949, t1217.2.1)
 else none
 else
 dn (.inl (x938, x939, x944, x949, x953))
theorem lts_Parse.l0b_ap (fu : Nat) (t307 : (Option api_Fault) × (List api_Token) × Int) (x938 : Option api_Fault) (x939 : List api_Prop) (x944 : List lts_step) (x949 : List (Bs × Bool)) (x953 : List api_Token) : Ap (lts_Parse.l0bc fu t307 x938 x939 x944 x949 x953) (lts_Parse.l0b t307 x938 x939 x944 x949 x953) := by
  unfold lts_Parse.l0bc lts_Parse.l0b
  rw [bseq_bseqC]
  repeat' with_reducible first | exact lts_reader_blank.f_ap _ _ _ _ _ _ _ _ _ | exact lts_reader_want.f_ap _ _ _ _ _ _ _ _ _ _ | exact lts_reader_edge.f_ap _ _ _ _ _ _ _ _ _ _ _ _ _ | exact lts_reader_mark.f_ap _ _ _ _ _ _ _ _ _ | exact lts_reader_fail.f_ap _ _ _ _ _ _ _ _ _ _ _ _ _ _ | exact Ap.none | refine Ap.ite ?_ ?_ | refine Ap.bind ?_ fun _ => ?_ | exact Ap.refl _
def lts_Parse.l0c (fu : Nat) (t307 : (Option api_Fault) × (List api_Token) × Int) (x938 : Option api_Fault) (x939 : List api_Prop) (x944 : List lts_step) (x949 : List (Bs × Bool)) (x953 : List api_Token) : Option (((Option api_Fault) × (List api_Prop) × (List lts_step) × (List (Bs × Bool)) × (List api_Token)) ⊕ ((Option api_Fault) × (List Bs) × (List api_Edge) × (List api_Prop) × Int)) := iterC fu (fun t_ : (Option api_Fault) × (List api_Prop) × (List lts_step) × (List (Bs × Bool)) × (List api_Token) => lts_Parse.l0bc fu t307 t_.1 t_.2.1 t_.2.2.1 t_.2.2.2.1 t_.2.2.2.2) (x938, x939, x944, x949, x953)
theorem lts_Parse.l0_ap (fu : Nat) (t307 : (Option api_Fault) × (List api_Token) × Int) (x938 : Option api_Fault) (x939 : List api_Prop) (x944 : List lts_step) (x949 : List (Bs × Bool)) (x953 : List api_Token) : Ap (lts_Parse.l0c fu t307 x938 x939 x944 x949 x953) (lts_Parse.l0 t307 x938 x939 x944 x949 x953) := by
  unfold lts_Parse.l0c lts_Parse.l0
  repeat' with_reducible first | exact lts_Parse.l0b_ap _ _ _ _ _ _ _ | refine Ap.iter fun _ => ?_ | exact Ap.refl _
def lts_Parse.fc (fu : Nat) (a0 : Bs) : Option ((Option api_Fault) × (List Bs) × (List api_Edge) × (List api_Prop) × Int) :=
 (scan_All.fc fu a0).bind fun t284 =>
 if t284.1.isNone = true then
 (lts_reader_head.fc fu t284.2 (none : Option api_Fault) 0 ([] : List Bs) ([] : List api_Edge) ([] : List api_Prop) ([] : List lts_step) ([] : List (Bs × Bool))).bind fun t307 =>
 jn (lts_Parse.l0c fu t307 t307.1 ([] : List api_Prop) ([] : List lts_step) ([] : List (Bs × Bool)) t307.2.1) (fun (s_ : (Option api_Fault) × (List api_Prop) × (List lts_step) × (List (Bs × Bool)) × (List api_Token)) =>
 if s_.1.isNone = true then
 (lts_reader_system.fc fu s_.2.2.2.2 s_.1 t307.2.2 ([] : List Bs) ([] : List api_Edge) s_.2.1 s_.2.2.1 s_.2.2.2.1).bind fun t1189 =>
 some (none, t1189.2.2.1, t1189.2.1, t1189.1, t1189.2.2.2)
 else
 some ((some (⟨(s_.1.getD default).At, (s_.1.getD default).Err⟩ : api_Fault)), ([] : List Bs), ([] : List api_Edge), ([] : List api_Prop), 0))
 else
 some (t284.1, ([] : List Bs), ([] : List api_Edge), ([] : List api_Prop), 0)
theorem lts_Parse.f_ap (fu : Nat) (a0 : Bs) : Ap (lts_Parse.fc fu a0) (lts_Parse.f a0) := by
  unfold lts_Parse.fc lts_Parse.f
  repeat' with_reducible first | exact scan_All.f_ap _ _ | exact lts_reader_head.f_ap _ _ _ _ _ _ _ _ _ | exact lts_Parse.l0_ap _ _ _ _ _ _ _ | exact lts_reader_system.f_ap _ _ _ _ _ _ _ _ _ | exact Ap.none | refine Ap.jn ?_ fun _ => ?_ | refine Ap.ite ?_ ?_ | refine Ap.bind ?_ fun _ => ?_ | exact Ap.refl _
def lts_Table_States.fc (fu : Nat) (a0_0 : Int) (a0_1 : List (Bs × sets_Set)) (a0_2 : List (lts_edges × sets_Set)) : Option Int :=
 some a0_0
theorem lts_Table_States.f_ap (fu : Nat) (a0_0 : Int) (a0_1 : List (Bs × sets_Set)) (a0_2 : List (lts_edges × sets_Set)) : Ap (lts_Table_States.fc fu a0_0 a0_1 a0_2) (lts_Table_States.f a0_0 a0_1 a0_2) := by
  unfold lts_Table_States.fc lts_Table_States.f
  repeat' with_reducible first | exact Ap.refl _
def lts_Table_Next.fc (fu : Nat) (a0_0 : Int) (a0_1 : List (Bs × sets_Set)) (a0_2 : List (lts_edges × sets_Set)) (a1 : Int) (a2 : Bs) : Option (Int × Int × Int × Int) :=
 some (((mget a0_2 (⟨a1, a2⟩ : lts_edges)).getD (⟨(0 : Int), (0 : Int), (0 : Int), (0 : Int)⟩ : sets_Set)).c0, ((mget a0_2 (⟨a1, a2⟩ : lts_edges)).getD (⟨(0 : Int), (0 : Int), (0 : Int), (0 : Int)⟩ : sets_Set)).c1, ((mget a0_2 (⟨a1, a2⟩ : lts_edges)).getD (⟨(0 : Int), (0 : Int), (0 : Int), (0 : Int)⟩ : sets_Set)).c2, ((mget a0_2 (⟨a1, a2⟩ : lts_edges)).getD (⟨(0 : Int), (0 : Int), (0 : Int), (0 : Int)⟩ : sets_Set)).c3)
theorem lts_Table_Next.f_ap (fu : Nat) (a0_0 : Int) (a0_1 : List (Bs × sets_Set)) (a0_2 : List (lts_edges × sets_Set)) (a1 : Int) (a2 : Bs) : Ap (lts_Table_Next.fc fu a0_0 a0_1 a0_2 a1 a2) (lts_Table_Next.f a0_0 a0_1 a0_2 a1 a2) := by
  unfold lts_Table_Next.fc lts_Table_Next.f
  repeat' with_reducible first | exact Ap.refl _
def lts_Table_Holds.fc (fu : Nat) (a0_0 : Int) (a0_1 : List (Bs × sets_Set)) (a0_2 : List (lts_edges × sets_Set)) (a1 : Bs) : Option (Int × Int × Int × Int) :=
 some (((mget a0_1 a1).getD (⟨(0 : Int), (0 : Int), (0 : Int), (0 : Int)⟩ : sets_Set)).c0, ((mget a0_1 a1).getD (⟨(0 : Int), (0 : Int), (0 : Int), (0 : Int)⟩ : sets_Set)).c1, ((mget a0_1 a1).getD (⟨(0 : Int), (0 : Int), (0 : Int), (0 : Int)⟩ : sets_Set)).c2, ((mget a0_1 a1).getD (⟨(0 : Int), (0 : Int), (0 : Int), (0 : Int)⟩ : sets_Set)).c3)
theorem lts_Table_Holds.f_ap (fu : Nat) (a0_0 : Int) (a0_1 : List (Bs × sets_Set)) (a0_2 : List (lts_edges × sets_Set)) (a1 : Bs) : Ap (lts_Table_Holds.fc fu a0_0 a0_1 a0_2 a1) (lts_Table_Holds.f a0_0 a0_1 a0_2 a1) := by
  unfold lts_Table_Holds.fc lts_Table_Holds.f
  repeat' with_reducible first | exact Ap.refl _
def bailifflaw03_shown.fc (fu : Nat)  : Option Bool :=
 (lts_Parse.fc fu ([115, 116, 97, 116, 101, 115, 32, 50, 10, 101, 100, 103, 101, 32, 49, 32, 97, 32, 48, 10, 109, 97, 114, 107, 32, 112, 32, 49, 10] : Bs)).bind fun t271 =>
 (lts_New.fc fu t271.2.2.2.2 t271.2.1 t271.2.2.1 t271.2.2.2.1).bind fun t309 =>
 jn (
 if t271.1.isNone = true then
 some (.inl t309.isNone)
 else
 some (.inl true)) (fun (x513 : Bool) =>
 if x513 = true then
 some false
 else
 if t309.isNone = false then
 (lts_Table_States.fc fu ((t309.getD default).states) ((t309.getD default).holds) ((t309.getD default).next)).bind fun t530 =>
 jn (
 if t530 = 2 then
 (lts_Table_Next.fc fu ((t309.getD default).states) ((t309.getD default).holds) ((t309.getD default).next) 1 ([97] : Bs)).bind fun t946 =>
 some (.inl (decide (t946.1 = 1) && (decide (t946.2.1 = 0) && (decide (t946.2.2.1 = 0) && (decide (t946.2.2.2 = 0) && true)))))
 else
 some (.inl false)) (fun (x732 : Bool) =>
 jn (
 if x732 = true then
 (lts_Table_Holds.fc fu ((t309.getD default).states) ((t309.getD default).holds) ((t309.getD default).next) ([112] : Bs)).bind fun t943 =>
 some (.inl (decide (t943.1 = 2) && (decide (t943.2.1 = 0) && (decide (t943.2.2.1 = 0) && (decide (t943.2.2.2 = 0) && true)))))
 else
 some (.inl false)) (fun (x937 : Bool) =>
 some x937))
 else none)
theorem bailifflaw03_shown.f_ap (fu : Nat)  : Ap (bailifflaw03_shown.fc fu ) (bailifflaw03_shown.f ) := by
  unfold bailifflaw03_shown.fc bailifflaw03_shown.f
  repeat' with_reducible first | exact lts_Parse.f_ap _ _ | exact lts_New.f_ap _ _ _ _ _ | exact lts_Table_States.f_ap _ _ _ _ | exact lts_Table_Next.f_ap _ _ _ _ _ _ | exact lts_Table_Holds.f_ap _ _ _ _ _ | exact Ap.none | refine Ap.jn ?_ fun _ => ?_ | refine Ap.ite ?_ ?_ | refine Ap.bind ?_ fun _ => ?_ | exact Ap.refl _
theorem bailifflaw03_shown_run : bailifflaw03_shown.f = some true := bailifflaw03_shown.f_ap 100 _ (by kernel_rfl)
end Go.Bw
