/- A law's start: structs of lists that came in. Conditions: none. -/
import Derived.Test.YtbkooifhcekpmaaGreatBwOpen
import Derived.Deep.Strs
import Derived.OpenShut
import Derived.SizedLaws
set_option linter.unusedVariables false
set_option linter.unusedSimpArgs false
set_option linter.unusedSectionVars false
namespace Go.Bw
open Go Go.RowKit Go.ChangeShapes Go.WideShapes Go.Deep

section
variable {H : Type} {enc : TypeId × Value → H} {P : Program} {W : World} {base : Nat} {held : Bool}
/-- What one list reads as. -/
structure IsI (P : Program) (W : World) (k : IntKind) (d : DataW H) (cs : List Value) (A : Option Addr) (c : Nat) (xs : List Int) : Prop where
  cs : cs = [.slice A xs.length c]
  le : xs.length ≤ c
  mx : c ≤ maxLen
  rd : RdS (Fl.int k).rep (wh W) A xs
  wf : ∀ x ∈ xs, (Lit.int k x).wf = true
  sh : DSh d xs
structure IsII (P : Program) (W : World) (k : IntKind) (d : DataW H) (cs : List Value) (A : Option Addr) (c : Nat) (xss : List (List Int)) : Prop where
  cs : cs = [.slice A xss.length c]
  le : xss.length ≤ c
  mx : c ≤ maxLen
  rd : RdS ((Fl.int k).rep).slice (wh W) A xss
  ln : ∀ xs ∈ xss, xs.length ≤ maxLen
  wf : ∀ xs ∈ xss, ∀ x ∈ xs, (Lit.int k x).wf = true
  sh : DSh2 d xss
theorem open_i_cs {t e : TypeId} {k : IntKind} {fuel : Nat} {cs : List Value} {x : DataW H × List MemPlace} (ht : P.underlying t = some (.slice e)) (he : P.underlying e = some (.int k)) (ce : P.cellsOf e = 1)
    (h : DataW.trod enc P W base (fun _ => true) held fuel t cs = some x) : ∃ A c xs, IsI P W k x.1 cs A c xs := by
  have hv : ∃ a len cap, cs = [.slice a len cap] := by
    rcases open_ints ht he ce h with ⟨h, _⟩ | ⟨a, len, cap, zs, h, _⟩
    · exact ⟨_, _, _, h⟩
    · exact ⟨_, _, _, h⟩
  obtain ⟨a, len, cap, rfl⟩ := hv
  obtain ⟨A, c, xs, hv, h1, h2, h3, h4, h5⟩ := open_i (v := .slice a len cap) (d := x.1) (ps := x.2) ht he ce ⟨_, _, _, rfl⟩ ⟨fuel, h⟩
  exact ⟨A, c, xs, by rw [hv], h1, h2, h3, h4, h5⟩
theorem open_ii_cs {t e q : TypeId} {k : IntKind} {fuel : Nat} {cs : List Value} {x : DataW H × List MemPlace} (ht : P.underlying t = some (.slice e)) (he : P.underlying e = some (.slice q)) (hq : P.underlying q = some (.int k)) (ce : P.cellsOf e = 1) (cq : P.cellsOf q = 1)
    (h : DataW.trod enc P W base (fun _ => true) held fuel t cs = some x) : ∃ A c xss, IsII P W k x.1 cs A c xss := by
  have hv : ∃ a len cap, cs = [.slice a len cap] := by
    rcases open_int_rows ht he hq ce cq h with ⟨h, _⟩ | ⟨a, len, cap, A, L, C, Z, h, _⟩
    · exact ⟨_, _, _, h⟩
    · exact ⟨_, _, _, h⟩
  obtain ⟨a, len, cap, rfl⟩ := hv
  obtain ⟨A, c, xs, hv, h1, h2, h3, h4, h5, h6⟩ := open_ii (v := .slice a len cap) (d := x.1) (ps := x.2) ht he hq ce cq ⟨_, _, _, rfl⟩ ⟨fuel, h⟩
  exact ⟨A, c, xs, by rw [hv], h1, h2, h3, h4, h5, h6⟩
/-- A struct of two lists and a list of lists. -/
theorem open_s3 {t e q s : TypeId} {k : IntKind} {f0 f1 f2 : Field} {v : Value} {d : DataW H} {ps : List MemPlace} (ht : P.underlying t = some (.struct #[f0, f1, f2])) (h0 : f0.type = e ∧ f0.offset = 0) (h1 : f1.type = e ∧ f1.offset = 1) (h2 : f2.type = s ∧ f2.offset = 2)
    (hs : P.underlying s = some (.slice e)) (he : P.underlying e = some (.slice q)) (hq : P.underlying q = some (.int k)) (ct : P.cellsOf t = 3) (cs' : P.cellsOf s = 1) (ce : P.cellsOf e = 1) (cq : P.cellsOf q = 1) (hv : ∃ cs, v = .agg cs ∧ cs.size = P.cellsOf t)
    (h : DataW.Trod enc P W base (fun _ => true) held t v d ps) : ∃ (A0 : Option Addr) (c0 : Nat) (x0 : List Int) (A1 : Option Addr) (c1 : Nat) (x1 : List Int) (A2 : Option Addr) (c2 : Nat) (x2 : List (List Int)) (d0 d1 d2 : DataW H) (l0 l1 l2 : List Value),
      v = .agg #[.slice A0 x0.length c0, .slice A1 x1.length c1, .slice A2 x2.length c2] ∧ d = .agg [d0, d1, d2] ∧ IsI P W k d0 l0 A0 c0 x0 ∧ IsI P W k d1 l1 A1 c1 x1 ∧ IsII P W k d2 l2 A2 c2 x2 := by
  obtain ⟨fuel, hf⟩ := h
  obtain ⟨cs, rfl, hsz⟩ := hv
  obtain ⟨y0, y1, y2, n, hx, _, g0, g1, g2⟩ := trod_struct3 ht hf
  rw [h0.1, h0.2, ce] at g0
  rw [h1.1, h1.2, ce] at g1
  rw [h2.1, h2.2, cs'] at g2
  obtain ⟨A0, c0, x0, i0⟩ := open_i_cs he hq cq g0
  obtain ⟨A1, c1, x1, i1⟩ := open_i_cs he hq cq g1
  obtain ⟨A2, c2, x2, i2⟩ := open_ii_cs hs he hq ce cq g2
  refine ⟨A0, c0, x0, A1, c1, x1, A2, c2, x2, _, _, _, _, _, _, ?_, (Prod.mk.inj hx).1, i0, i1, i2⟩
  obtain ⟨cs⟩ := cs
  rw [ct] at hsz
  match cs, hsz with
  | [a, b, c], _ =>
    have e0 := i0.cs
    have e1 := i1.cs
    have e2 := i2.cs
    simp [Value.cells] at e0 e1 e2
    rw [e0, e1, e2]
/-- A struct of two pairs of lists. -/
theorem open_s22 {t e q s : TypeId} {k : IntKind} {f0 f1 : Field} {v : Value} {d : DataW H} {ps : List MemPlace} (ht : P.underlying t = some (.struct #[f0, f1])) (h0 : f0.type = s ∧ f0.offset = 0) (h1 : f1.type = s ∧ f1.offset = 2)
    (hs : P.underlying s = some (.array 2 e)) (he : P.underlying e = some (.slice q)) (hq : P.underlying q = some (.int k)) (ct : P.cellsOf t = 4) (cs' : P.cellsOf s = 2) (ce : P.cellsOf e = 1) (cq : P.cellsOf q = 1) (hv : ∃ cs, v = .agg cs ∧ cs.size = P.cellsOf t)
    (h : DataW.Trod enc P W base (fun _ => true) held t v d ps) : ∃ (A0 : Option Addr) (c0 : Nat) (x0 : List Int) (A1 : Option Addr) (c1 : Nat) (x1 : List Int) (A2 : Option Addr) (c2 : Nat) (x2 : List Int) (A3 : Option Addr) (c3 : Nat) (x3 : List Int) (d0 d1 d2 d3 : DataW H) (l0 l1 l2 l3 : List Value),
      v = .agg #[.slice A0 x0.length c0, .slice A1 x1.length c1, .slice A2 x2.length c2, .slice A3 x3.length c3] ∧ d = .agg [.agg [d0, d1], .agg [d2, d3]] ∧ IsI P W k d0 l0 A0 c0 x0 ∧ IsI P W k d1 l1 A1 c1 x1 ∧ IsI P W k d2 l2 A2 c2 x2 ∧ IsI P W k d3 l3 A3 c3 x3 := by
  obtain ⟨fuel, hf⟩ := h
  obtain ⟨cs, rfl, hsz⟩ := hv
  obtain ⟨y0, y1, n, hx, _, g0, g1⟩ := trod_struct2 ht hf
  rw [h0.1, h0.2, cs'] at g0
  rw [h1.1, h1.2, cs'] at g1
  obtain ⟨z0, m0, _, hy0, _, hz0, j0⟩ := DataW.trod_array hs g0
  obtain ⟨z1, m1, _, hy1, _, hz1, j1⟩ := DataW.trod_array hs g1
  rw [ce] at j0 j1
  match z0, hz0, z1, hz1 with
  | [a0, a1], _, [b0, b1], _ =>
    have q0 := j0 0 (by decide)
    have q1 := j0 1 (by decide)
    have q2 := j1 0 (by decide)
    have q3 := j1 1 (by decide)
    simp only [List.getElem?_cons_zero, List.getElem?_cons_succ] at q0 q1 q2 q3
    obtain ⟨A0, c0, x0, i0⟩ := open_i_cs he hq cq q0
    obtain ⟨A1, c1, x1, i1⟩ := open_i_cs he hq cq q1
    obtain ⟨A2, c2, x2, i2⟩ := open_i_cs he hq cq q2
    obtain ⟨A3, c3, x3, i3⟩ := open_i_cs he hq cq q3
    refine ⟨A0, c0, x0, A1, c1, x1, A2, c2, x2, A3, c3, x3, _, _, _, _, _, _, _, _, ?_, ?_, i0, i1, i2, i3⟩
    · obtain ⟨cs⟩ := cs
      rw [ct] at hsz
      match cs, hsz with
      | [a, b, c, d], _ =>
        have e0 := i0.cs
        have e1 := i1.cs
        have e2 := i2.cs
        have e3 := i3.cs
        simp [Value.cells] at e0 e1 e2 e3
        rw [e0, e1, e2, e3]
    · have := (Prod.mk.inj hx).1
      rw [this, hy0, hy1]
      rfl
theorem sz_one {e q : TypeId} {d : DataW H} {xs : List Int} (he : P.underlying e = some (.slice q)) (hb : P.bytesOf q = 8) (h : DSh d xs) (hw : ∀ w ∈ DataW.weights P e d, w ≤ reachBytes) : xs.length * 8 ≤ 140737488351232 := by
  rcases h with ⟨rfl, rfl⟩ | ⟨es, sp, rfl, h⟩
  · simp
  · have := hw ((es.length + sp.length) * P.bytesOf q) (by simp [DataW.weights, he])
    rw [hb] at this
    have hr : reachBytes = 140737488351232 := rfl
    rw [hr] at this
    have : xs.length * 8 ≤ (es.length + sp.length) * 8 := Nat.mul_le_mul_right _ (by omega)
    omega
/-- Of a struct of two pairs of lists: what its weight says of their lengths. -/
theorem sz_s22 {ts : List TypeId} {ds : List (DataW H)} {j : Nat} {t e q s : TypeId} {f0 f1 : Field} {d0 d1 d2 d3 : DataW H} {x0 x1 x2 x3 : List Int} (hsz : (DataW.weightsEach P ts ds).all (· ≤ reachBytes) = true) (ht : ts[j]? = some t) (hd : ds[j]? = some (.agg [.agg [d0, d1], .agg [d2, d3]]))
    (hu : P.underlying t = some (.struct #[f0, f1])) (h0 : f0.type = s) (h1 : f1.type = s) (hs : P.underlying s = some (.array 2 e)) (he : P.underlying e = some (.slice q)) (hb : P.bytesOf q = 8) (i0 : DSh d0 x0) (i1 : DSh d1 x1) (i2 : DSh d2 x2) (i3 : DSh d3 x3) :
    x0.length * 8 ≤ 140737488351232 ∧ x1.length * 8 ≤ 140737488351232 ∧ x2.length * 8 ≤ 140737488351232 ∧ x3.length * 8 ≤ 140737488351232 := by
  have key : ∀ w ∈ DataW.weights P t (.agg [.agg [d0, d1], .agg [d2, d3]]), w ≤ reachBytes := fun w hw => by
    have := List.all_eq_true.1 hsz _ (DataW.weights_mem_each ht hd w hw)
    simpa using this
  have hww : DataW.weights P t (.agg [.agg [d0, d1], .agg [d2, d3]]) = (DataW.weights P e d0 ++ DataW.weights P e d1) ++ (DataW.weights P e d2 ++ DataW.weights P e d3) := by
    simp [DataW.weights, DataW.weightsEach, DataW.weightsAll, hu, h0, h1, hs]
  rw [hww] at key
  exact ⟨sz_one he hb i0 fun w hw => key w (by simp [hw]), sz_one he hb i1 fun w hw => key w (by simp [hw]), sz_one he hb i2 fun w hw => key w (by simp [hw]), sz_one he hb i3 fun w hw => key w (by simp [hw])⟩
theorem each_len : ∀ {es : List (DataW H)} {xss : List (List Int)}, EachSh es xss → xss.length = es.length
  | [], [], _ => rfl
  | d :: es, x :: xss, h => by simp [each_len h.2]
theorem each_mem : ∀ {es : List (DataW H)} {xss : List (List Int)}, EachSh es xss → ∀ xs ∈ xss, ∃ d ∈ es, DSh d xs
  | [], [], _ => by simp
  | d :: es, x :: xss, h => fun xs hx => by
    rcases List.mem_cons.1 hx with rfl | hx
    · exact ⟨d, by simp, h.1⟩
    · obtain ⟨d', h1, h2⟩ := each_mem h.2 xs hx
      exact ⟨d', by simp [h1], h2⟩
theorem all_sub {e : TypeId} : ∀ {es : List (DataW H)} {d : DataW H}, d ∈ es → ∀ w ∈ DataW.weights P e d, w ∈ DataW.weightsAll P e es
  | x :: es, d, hd => fun w hw => by
    rw [DataW.weightsAll]
    rcases List.mem_cons.1 hd with rfl | hd
    · simp [hw]
    · simp [all_sub hd w hw]
theorem sz_two {s e q : TypeId} {d : DataW H} {xss : List (List Int)} (hs : P.underlying s = some (.slice e)) (he : P.underlying e = some (.slice q)) (hb : P.bytesOf q = 8) (hb2 : P.bytesOf e = 24) (h : DSh2 d xss) (hw : ∀ w ∈ DataW.weights P s d, w ≤ reachBytes) :
    xss.length * 24 ≤ 140737488351232 ∧ ∀ xs ∈ xss, xs.length * 8 ≤ 140737488351232 := by
  rcases h with ⟨rfl, rfl⟩ | ⟨es, sp, rfl, h⟩
  · simp
  · refine ⟨?_, fun xs hx => ?_⟩
    · have := hw ((es.length + sp.length) * P.bytesOf e) (by simp [DataW.weights, hs])
      rw [hb2] at this
      have hr : reachBytes = 140737488351232 := rfl
      rw [hr] at this
      have hl := each_len h
      omega
    · obtain ⟨d', h1, h2⟩ := each_mem h xs hx
      exact sz_one he hb h2 fun w hw' => hw w (by
        have := all_sub (P := P) (e := e) h1 w hw'
        simp [DataW.weights, hs, this])
/-- Of a struct of two lists and a list of lists: what its weight says of their lengths. -/
theorem sz_s3 {ts : List TypeId} {ds : List (DataW H)} {j : Nat} {t e q s : TypeId} {f0 f1 f2 : Field} {d0 d1 d2 : DataW H} {x0 x1 : List Int} {x2 : List (List Int)} (hsz : (DataW.weightsEach P ts ds).all (· ≤ reachBytes) = true) (ht : ts[j]? = some t) (hd : ds[j]? = some (.agg [d0, d1, d2]))
    (hu : P.underlying t = some (.struct #[f0, f1, f2])) (h0 : f0.type = e) (h1 : f1.type = e) (h2 : f2.type = s) (hs : P.underlying s = some (.slice e)) (he : P.underlying e = some (.slice q)) (hb : P.bytesOf q = 8) (hb2 : P.bytesOf e = 24) (i0 : DSh d0 x0) (i1 : DSh d1 x1) (i2 : DSh2 d2 x2) :
    x0.length * 8 ≤ 140737488351232 ∧ x1.length * 8 ≤ 140737488351232 ∧ x2.length * 24 ≤ 140737488351232 ∧ ∀ xs ∈ x2, xs.length * 8 ≤ 140737488351232 := by
  have key : ∀ w ∈ DataW.weights P t (.agg [d0, d1, d2]), w ≤ reachBytes := fun w hw => by
    have := List.all_eq_true.1 hsz _ (DataW.weights_mem_each ht hd w hw)
    simpa using this
  have hww : DataW.weights P t (.agg [d0, d1, d2]) = DataW.weights P e d0 ++ (DataW.weights P e d1 ++ DataW.weights P s d2) := by
    simp [DataW.weights, DataW.weightsEach, DataW.weightsAll, hu, h0, h1, h2]
  rw [hww] at key
  obtain ⟨a, b⟩ := sz_two hs he hb hb2 i2 fun w hw => key w (by simp [hw])
  exact ⟨sz_one he hb i0 fun w hw => key w (by simp [hw]), sz_one he hb i1 fun w hw => key w (by simp [hw]), a, b⟩
end
end Go.Bw
