/- The law CyclesParts, for whatever comes in. Conditions: none. -/
import Derived.Test.YtmkidaijgdgcjaaRows
import Derived.Test.YtmkidaijgdgcjaaBwOpenS
import Derived.Test.YtmkidaijgdgcjaaBwEndPart
import Derived.WalkKit
import Derived.ProofKit
import Derived.OpenShut
import Derived.ChangeOld
import Derived.Below
import Derived.JoinedCond
set_option linter.unusedVariables false
set_option linter.unusedSimpArgs false
set_option linter.unusedSectionVars false
namespace Go.Proofs.Ytmkidaijgdgcjaa.cyclesParts
open Go.ChangeShapes Go.WideShapes Go.ChangeAt Go.RowKit Go.Bw
theorem own : ownKnob Try.prog.godebug = none := by kernel_rfl
theorem laidOut : laidOutB Try.prog = true := by kernel_rfl
theorem one_le {H : Type} (d : DataW H) : 1 ≤ Rows.uptoBulk d := by
  cases d with
  | lit l => cases l <;> simp [Rows.uptoBulk]
  | nil => simp [Rows.uptoBulk]
  | ptr d => simp [Rows.uptoBulk]
  | slice elems spare => simp [Rows.uptoBulk]
  | agg parts => simp [Rows.uptoBulk]
  | iface t d => simp [Rows.uptoBulk]
  | map entries => simp [Rows.uptoBulk]
  | held h => simp [Rows.uptoBulk]
theorem part_le {H : Type} {d : DataW H} {l : List (DataW H)} (h : d ∈ l) : Rows.uptoBulk d ≤ Rows.uptoBulkAll l := by
  induction l with
  | nil => cases h
  | cons x r ih =>
    simp only [Rows.uptoBulkAll]
    cases List.mem_cons.1 h with
    | inl e => subst e; omega
    | inr e => have := ih e; omega
theorem length_le {H : Type} (l : List (DataW H)) : l.length ≤ Rows.uptoBulkAll l := by
  induction l with
  | nil => simp [Rows.uptoBulkAll]
  | cons x r ih => have := one_le x; simp only [Rows.uptoBulkAll, List.length_cons]; omega
theorem bulk_i {H : Type} {d : DataW H} {xs : List Int} (h : DSh d xs) : xs.length + 1 ≤ Rows.uptoBulk d := by
  rcases h with ⟨rfl, rfl⟩ | ⟨es, sp, rfl, h⟩
  · simp [Rows.uptoBulk]
  · have := length_le es
    simp only [Rows.uptoBulk]
    omega
theorem bulk_each {H : Type} : ∀ {es : List (DataW H)} {xss : List (List Int)}, EachSh es xss → tot xss + xss.length ≤ Rows.uptoBulkAll es
  | [], [], _ => by simp [tot_nil, Rows.uptoBulkAll]
  | d :: es, x :: xss, h => by
    have h1 := bulk_i h.1
    have h2 := bulk_each h.2
    simp only [tot_cons, Rows.uptoBulkAll, List.length_cons]
    omega
theorem bulk_ii {H : Type} {d : DataW H} {xss : List (List Int)} (h : DSh2 d xss) : tot xss + xss.length + 1 ≤ Rows.uptoBulk d := by
  rcases h with ⟨rfl, rfl⟩ | ⟨es, sp, rfl, h⟩
  · simp [tot_nil, Rows.uptoBulk]
  · have := bulk_each h
    simp only [Rows.uptoBulk]
    omega
set_option maxRecDepth 100000 in
theorem lifted (os : Os) (started : os.Started) (H : Type) (enc : TypeId × Value → H) (F : Stop.Interp) :
    ReturnsInHanded {} Try.checked os 3 .any ((Rows.OpenSpec.upto Rows.cyclesPartsSpec).pre6 enc Try.prog Try.f3 Rows.cyclesPartsUptoRow.domain false) (((Rows.OpenSpec.upto Rows.cyclesPartsSpec).at F).post enc Try.prog Try.f3 false true false false) := by
  refine returnsInHanded_of_cond (C := Try.checked) (s := Rows.OpenSpec.upto Rows.cyclesPartsSpec) (k := Rows.uptoSmall) rfl own started (by kernel_rfl) Try.func3
    (OpenSpec.witness (enc := enc) (C := Try.checked) (s := Rows.OpenSpec.upto Rows.cyclesPartsSpec) (k := Rows.uptoSmall) rfl false ⟨#[], #[.slice none 0 0], []⟩ 8 (by kernel_rfl) (by kernel_rfl) (by kernel_rfl)
      (x := ([.nil], [], [])) (by kernel_rfl) rfl (by kernel_rfl)) ?_
  intro W base args ds gs before hval0 hW _ hk _
  have hval : ∀ (j : Nat) t v, Try.f3.params[j]? = some t → args[j]? = some v → Value.okWide Try.prog W .any base t v := hval0
  have hW' := hW
  obtain ⟨p, q, hA0, hV, rfl, hfz, hnd⟩ := hW
  have hA : DataW.TrodAll enc Try.prog W 0 (fun _ => true) true Try.f3.params.toList args.toList ds p := hA0
  rw [Try.params3] at hA hval
  obtain ⟨v0, vs0, d0, ds0, p0, q0, hargs, rfl, rfl, h0, r0⟩ := trodAll_cons hA
  obtain ⟨rfl, rfl, rfl⟩ := trodAll_nil r0
  obtain rfl : args = #[v0] := by cases args; simp_all
  obtain ⟨rfl, rfl⟩ := trodVars_none hV
  obtain ⟨ds_, hds⟩ : ∃ l : List (DataW H), l = [d0] := ⟨_, rfl⟩
  have hsmall : Rows.uptoBulkAll ds_ ≤ 1048576 := by
    rw [hds]
    have h := of_decide_eq_true hk
    simp only [List.append_nil] at h
    exact h
  have lt0 : ∀ x ∈ p0, x.block < W.heap.size := by obtain ⟨m, hm⟩ := h0; exact DataW.trod_lt m _ _ _ hm
  have k0 := h0
  obtain ⟨A0, c0, a0, rfl, hc0, hm0, hr0, hl0, hw0, hd0⟩ := open_ii Try.underlying22 Try.underlying26 Try.underlying3 (by kernel_rfl) (by kernel_rfl) (okWide_slice Try.underlying22 (hval 0 22 v0 rfl rfl)) h0
  have hb0 : tot a0 + (a0.length : Int) ≤ 1048576 := by have h1 := bulk_ii hd0; have h2 := part_le (l := ds_) (show d0 ∈ ds_ by simp [hds]); omega
  clear hA0 hval0 hval hk
  refine (bailifflaw15_CyclesParts.spec (Res.of W) [] A0 a0.length c0 a0 hr0 rfl hc0 (bailifflaw15_CyclesParts_run hl0 hw0 hb0) W (sat_of W)).mono fun e W' he => ?_
  obtain ⟨v, l', rfl, hp, hs⟩ := he
  obtain ⟨rfl, _⟩ := hp
  have bel := below_of hs
  exact ⟨_, rfl, _, _, _, [], _, [], hW', trodAll_mk1 (shut_bool Try.underlying4 _), (trodAll_cons_mk (Below.trod laidOut (by kernel_rfl) (of_decide_eq_true (by kernel_rfl)) k0 bel lt0) trodAll_mk0), rfl, bel.frame _, fun h => by cases h⟩
theorem over : Rows.cyclesPartsUptoRow.holds Try.pinned (Rows.OpenSpec.upto Rows.cyclesPartsSpec) :=
  OpenClaim.holds_of_cond 3 Try.f3 rfl rfl rfl rfl rfl rfl rfl ⟨rfl, rfl, rfl, rfl, rfl⟩ rfl rfl rfl rfl rfl (by kernel_rfl) Try.func3 (by kernel_rfl)
    (of_decide_eq_true (by kernel_rfl)) (by unfold Func.isWrapper; first | (rw [if_pos (by decide +kernel)]; kernel_rfl) | (rw [if_neg (by decide +kernel)]; exact ⟨rfl, rfl⟩))
    (fun os started H enc _ F => lifted os started H enc F)
theorem proved : Rows.CyclesPartsUptoSaid := over
#print axioms proved
end Go.Proofs.Ytmkidaijgdgcjaa.cyclesParts
namespace Go.Proofs.Ytmkidaijgdgcjaa
/-- The row, under a short name, for the claim. -/
theorem cyclesPartsUpto_holds : Rows.CyclesPartsUptoSaid := cyclesParts.proved
end Go.Proofs.Ytmkidaijgdgcjaa
