/- The orders of edges and of propositions, as the models tell them. Conditions: none. -/
import Derived.Test.YtbkooifhcekpmaaGreatBwParB
import Derived.Test.YtbkooifhcekpmaaGreatBwTwin
set_option linter.unusedVariables false
set_option linter.unusedSimpArgs false
set_option linter.unusedSectionVars false
namespace Go.Bw
open Go Go.RowKit Go.Proofs Go.Sort

def cmp3 (a b : Int) : Int := if a < b then -1 else if b < a then 1 else 0
theorem cmp_int_run (a b : Int) : cmp_Compare_int.f a b = some (cmp3 a b) := by
  unfold cmp_Compare_int.f cmp_isNaN_int.f cmp3
  simp
  split
  · rfl
  · split <;> rfl
theorem cmp3_lt {a b : Int} : cmp3 a b < 0 ↔ a < b := by
  unfold cmp3
  split
  · simp [*]
  · split <;> simp <;> omega
theorem cmp3_eq {a b : Int} : cmp3 a b = 0 ↔ a = b := by
  unfold cmp3
  split
  · simp; omega
  · split <;> simp <;> omega
theorem cmp3_self (a : Int) : cmp3 a a = 0 := cmp3_eq.2 rfl
theorem or_run (a b c : Int) : cmp_Or_int.f [a, b, c] = some (if a = 0 then if b = 0 then c else b else a) := by
  unfold cmp_Or_int.f cmp_Or_int.l0
  by_cases ha : a = 0
  · by_cases hb : b = 0
    · by_cases hc : c = 0
      · subst ha hb hc
        rw [iter_eq, cmp_Or_int.l0b]
        simp [nx, gt, IntKind.wrap, IntKind.bits, IntKind.signed]
        rw [iter_eq, cmp_Or_int.l0b]
        simp [nx, gt, IntKind.wrap, IntKind.bits, IntKind.signed]
        rw [iter_eq, cmp_Or_int.l0b]
        simp [nx, gt, IntKind.wrap, IntKind.bits, IntKind.signed]
        rw [iter_eq, cmp_Or_int.l0b]
        simp [dn, jn]
      · subst ha hb
        rw [iter_eq, cmp_Or_int.l0b]
        simp [nx, gt, IntKind.wrap, IntKind.bits, IntKind.signed]
        rw [iter_eq, cmp_Or_int.l0b]
        simp [nx, gt, IntKind.wrap, IntKind.bits, IntKind.signed]
        rw [iter_eq, cmp_Or_int.l0b]
        simp [nx, gt, hc, upL, jn]
    · subst ha
      rw [iter_eq, cmp_Or_int.l0b]
      simp [nx, gt, IntKind.wrap, IntKind.bits, IntKind.signed]
      rw [iter_eq, cmp_Or_int.l0b]
      simp [nx, gt, hb, upL, jn]
  · rw [iter_eq, cmp_Or_int.l0b]
    simp [nx, gt, ha, upL, jn]
def edgeCmp (x y : api_Edge) : Int := if cmp3 x.From y.From = 0 then if cmp3 x.Action y.Action = 0 then cmp3 x.To y.To else cmp3 x.Action y.Action else cmp3 x.From y.From
theorem edge_run (x y : api_Edge) : lts_compare.f x.From x.Action x.To y.From y.Action y.To = some (edgeCmp x y) := by
  unfold lts_compare.f
  simp only [cmp_int_run, Option.bind_some, or_run]
  rfl
theorem edge_cmp (x y : api_Edge) : slices_SortFunc_api_Edge_api_Edge.cmp x y = some (edgeCmp x y) := edge_run x y
/-- The order of edges. -/
def edgeLt (x y : api_Edge) : Prop := x.From < y.From ∨ x.From = y.From ∧ (x.Action < y.Action ∨ x.Action = y.Action ∧ x.To < y.To)
theorem edgeCmp_lt {x y : api_Edge} : edgeCmp x y < 0 ↔ edgeLt x y := by
  unfold edgeCmp edgeLt
  by_cases h1 : x.From = y.From
  · rw [if_pos (cmp3_eq.2 h1)]
    by_cases h2 : x.Action = y.Action
    · rw [if_pos (cmp3_eq.2 h2), cmp3_lt]; omega
    · rw [if_neg (fun h => h2 (cmp3_eq.1 h)), cmp3_lt]; omega
  · rw [if_neg (fun h => h1 (cmp3_eq.1 h)), cmp3_lt]; omega
theorem edge_ltOf (x y : api_Edge) : ltOf (gcf slices_SortFunc_api_Edge_api_Edge.cmp) x y = true ↔ edgeLt x y := by
  unfold ltOf gcf
  rw [edge_cmp]
  simp [edgeCmp_lt]
theorem edge_ltOf' (x y : api_Edge) : ltOf (gcf slices_SortFunc_api_Edge_api_Edge.cmp) x y = false ↔ ¬ edgeLt x y := by
  rw [← edge_ltOf]; simp
theorem edge_tot : CmpTot slices_SortFunc_api_Edge_api_Edge.cmp := by
  refine ⟨⟨fun x y => by rw [edge_cmp]; rfl, fun x => ?_, fun x y z h1 h2 => ?_, fun x y z h1 h2 => ?_⟩, fun x y h1 h2 => ?_⟩
  · rw [edge_ltOf']; unfold edgeLt; omega
  · rw [edge_ltOf] at *; unfold edgeLt at *; omega
  · rw [edge_ltOf'] at *; unfold edgeLt at *; omega
  · rw [edge_ltOf'] at *
    unfold edgeLt at *
    cases x
    cases y
    simp at *
    omega
/-! ### Strings -/
theorem cb_self : ∀ (x : Bs), Lib.compareBytes x x = 0
  | [] => rfl
  | a :: x => by unfold Lib.compareBytes; rw [if_neg (UInt8.lt_irrefl a), if_neg (UInt8.lt_irrefl a)]; exact cb_self x
theorem cb_eq : ∀ {x y : Bs}, Lib.compareBytes x y = 0 → x = y
  | [], [], _ => rfl
  | [], _ :: _, h => by simp [Lib.compareBytes] at h
  | _ :: _, [], h => by simp [Lib.compareBytes] at h
  | a :: x, b :: y, h => by
    unfold Lib.compareBytes at h
    split at h
    · simp at h
    · split at h
      · simp at h
      · rename_i h1 h2
        rw [cb_eq h, UInt8.le_antisymm (UInt8.not_lt.1 h2) (UInt8.not_lt.1 h1)]
theorem cb_neg : ∀ {x y : Bs}, Lib.compareBytes y x = - Lib.compareBytes x y
  | [], [] => rfl
  | [], _ :: _ => rfl
  | _ :: _, [] => rfl
  | a :: x, b :: y => by
    unfold Lib.compareBytes
    by_cases h1 : a < b
    · rw [if_neg (UInt8.lt_asymm h1), if_pos h1, if_pos h1]; rfl
    · by_cases h2 : b < a
      · rw [if_pos h2, if_neg h1, if_pos h2]
      · rw [if_neg h1, if_neg h2, if_neg h2, if_neg h1]; exact cb_neg
theorem cb_trans : ∀ {x y z : Bs}, Lib.compareBytes x y < 0 → Lib.compareBytes y z < 0 → Lib.compareBytes x z < 0
  | [], [], _, h, _ => by simp [Lib.compareBytes] at h
  | [], _ :: _, [], _, h => by simp [Lib.compareBytes] at h
  | [], _ :: _, _ :: _, _, _ => by simp [Lib.compareBytes]
  | _ :: _, [], _, h, _ => by simp [Lib.compareBytes] at h
  | _ :: _, _ :: _, [], _, h => by simp [Lib.compareBytes] at h
  | a :: x, b :: y, c :: z, h1, h2 => by
    unfold Lib.compareBytes at h1 h2 ⊢
    by_cases hab : a < b
    · by_cases hbc : b < c
      · rw [if_pos (UInt8.lt_trans hab hbc)]; decide
      · rw [if_neg hbc] at h2
        by_cases hcb : c < b
        · rw [if_pos hcb] at h2; simp at h2
        · have : b = c := UInt8.le_antisymm (UInt8.not_lt.1 hcb) (UInt8.not_lt.1 hbc)
          subst this
          rw [if_pos hab]; decide
    · rw [if_neg hab] at h1
      by_cases hba : b < a
      · rw [if_pos hba] at h1; simp at h1
      · have : a = b := UInt8.le_antisymm (UInt8.not_lt.1 hba) (UInt8.not_lt.1 hab)
        subst this
        rw [if_neg hba] at h1
        by_cases hbc : a < c
        · rw [if_pos hbc]; decide
        · rw [if_neg hbc] at h2 ⊢
          by_cases hcb : c < a
          · rw [if_pos hcb] at h2; simp at h2
          · rw [if_neg hcb] at h2 ⊢
            exact cb_trans h1 h2
theorem prop_cmp (x y : api_Prop) : slices_SortFunc_api_Prop_api_Prop.cmp x y = some (Lib.compareBytes x.Name y.Name) := rfl
theorem prop_ltOf (x y : api_Prop) : ltOf (gcf slices_SortFunc_api_Prop_api_Prop.cmp) x y = true ↔ Lib.compareBytes x.Name y.Name < 0 := by
  unfold ltOf gcf
  rw [prop_cmp]
  simp
theorem prop_ltOf' (x y : api_Prop) : ltOf (gcf slices_SortFunc_api_Prop_api_Prop.cmp) x y = false ↔ 0 ≤ Lib.compareBytes x.Name y.Name := by
  have := prop_ltOf x y
  rw [← Bool.not_eq_true, this]; omega
theorem prop_swo : CmpSwo slices_SortFunc_api_Prop_api_Prop.cmp := by
  refine ⟨fun x y => by rw [prop_cmp]; rfl, fun x => ?_, fun x y z h1 h2 => ?_, fun x y z h1 h2 => ?_⟩
  · rw [prop_ltOf', cb_self]; decide
  · rw [prop_ltOf] at *; exact cb_trans h1 h2
  · rw [prop_ltOf'] at *
    rw [cb_neg] at h1 h2 ⊢
    have h1' : Lib.compareBytes y.Name x.Name ≤ 0 := by omega
    have h2' : Lib.compareBytes z.Name y.Name ≤ 0 := by omega
    by_cases e1 : Lib.compareBytes y.Name x.Name = 0
    · rw [← cb_eq e1]; omega
    · by_cases e2 : Lib.compareBytes z.Name y.Name = 0
      · rw [cb_eq e2]; omega
      · have := cb_trans (show Lib.compareBytes z.Name y.Name < 0 by omega) (show Lib.compareBytes y.Name x.Name < 0 by omega)
        omega
end Go.Bw
