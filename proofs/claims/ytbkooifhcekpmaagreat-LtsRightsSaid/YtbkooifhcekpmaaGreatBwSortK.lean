/- slices.Sort at strings; slices.SortFunc at structs of the call's own. Conditions: none. -/
import Derived.Test.YtbkooifhcekpmaaGreatBwSortI
import Derived.Test.YtbkooifhcekpmaaGreatBwSortF
import Derived.Test.YtbkooifhcekpmaaGreatBwGrow
import Derived.Test.YtbkooifhcekpmaaGreatBwOpen
set_option linter.unusedVariables false
set_option linter.unusedSimpArgs false
set_option linter.unusedSectionVars false
namespace Go.Bw
open Go Go.RowKit Go.Sort Go.Proofs Go.Shelf

/-! ### Strings -/
theorem flat_str (xs : List Bs) : xs.flatMap Fl.bs.enc = xs.map encStr := by
  induction xs with
  | nil => rfl
  | cons x xs ih => rw [List.flatMap_cons, ih]; rfl
theorem row_str (e : Nat) (A : Option Addr) (n c : Nat) (xs : List Bs) : row Fl.bs e A n c xs = own e 1 A n c (xs.map encStr) := by
  unfold row
  rw [flat_str]
  rfl
theorem sort_str_spec {P : Program} {ρ : Ren} (Ly : SlLaysN.n54 P ρ) (R : Res) (l : List HProp) {e n c : Nat} {A : Option Addr} {xs : List Bs} (hb : xs.length < 4611686018427387904) :
    Spec P (ρ.f 54) [.slice A n c] R (row Fl.bs e A n c xs :: l) (fun v l' => v = .tuple #[] ∧ row Fl.bs e A n c (xs.mergeSort fun x y => decide (x ≤ y)) :: l = l') := fun w hs => by
  obtain ⟨h, o, s⟩ := hs.head
  have hn := row_len o
  subst hn
  rw [row_str] at o hs
  rcases o.2 with ⟨rfl, h0, rfl⟩ | ⟨g, cur, rfl, hg, h3, h4, h5, h6⟩
  · have hx : xs = [] := List.eq_nil_of_length_eq_zero h0
    subst hx
    refine (AnyG.slices_Sort_string_none Ly none 0 w).mono fun e w' ⟨he, hw⟩ => ⟨_, _, he, ⟨rfl, rfl⟩, ?_⟩
    subst hw
    rw [row_str]
    simpa using hs
  · have hgw : w.heap[g]? = some (.cells cur e) := s g _ hg
    have hH : Holds encStr w g 0 xs.toArray := holds_block hgw (by rw [Nat.mul_one] at h6; exact h6)
    refine (AnyG.slices_Sort_string Ly g 0 c xs w hH (Array.getElem?_eq_some_iff.1 hgw).1 hb).mono fun e' w' ⟨he, n, os, hw⟩ => ⟨_, _, he, ⟨rfl, rfl⟩, ?_⟩
    subst hw
    rw [row_str]
    exact sat.sorted hs (by simp)

/-! ### What only reads leaves the world but for draws and new blocks -/
theorem grown_of {W w : World} (h : sat (Res.of W) [] w) : ∃ q os, w = Sort.grow (W.drewN q) os := by
  obtain ⟨ok, _⟩ := h
  obtain ⟨s, h1, h2, h3, h4⟩ := ok
  refine ⟨w.drawn - W.drawn, w.heap.extract W.heap.size w.heap.size, ?_⟩
  have h4' : W.drawn ≤ w.drawn := h4
  have hsz : W.heap.size ≤ w.heap.size := by
    rcases Nat.eq_zero_or_pos W.heap.size with h0 | h0
    · omega
    · have := s (W.heap.size - 1) _ (Array.getElem?_eq_getElem (by omega))
      have := (Array.getElem?_eq_some_iff.1 this).1
      omega
  have hh : w.heap = W.heap ++ w.heap.extract W.heap.size w.heap.size := by
    apply Array.ext_getElem?
    intro i
    by_cases hi : i < W.heap.size
    · rw [Array.getElem?_append_left hi]
      exact (s i _ (Array.getElem?_eq_getElem hi)).trans (Array.getElem?_eq_getElem hi).symm
    · rw [Array.getElem?_append_right (by omega), Array.getElem?_extract]
      by_cases h2 : i < w.heap.size
      · rw [if_pos (by omega)]
        congr 1
        omega
      · rw [if_neg (by omega), Array.getElem?_eq_none (by omega)]
  have hd : W.drawn + (w.drawn - W.drawn) = w.drawn := by omega
  cases w
  simp only [Sort.grow, World.drewN] at *
  simp only [World.mk.injEq]
  exact ⟨hh, h2, hd.symm, h1, h3⟩
theorem Spec.reads {P : Program} {f : Nat} {args : List Value} {W : World} {u : Value} (h : Spec P f args (Res.of W) [] (fun v l' => v = u ∧ [] = l')) :
    Calls P f args.toArray W fun e w' => e = .returned u ∧ ∃ q os', w' = Sort.grow (W.drewN q) os' :=
  (h W (sat_of W)).mono fun e w' ⟨v, l', he, ⟨hv, hl⟩, hs⟩ => by
    subst hv hl
    exact ⟨he, grown_of hs⟩

/-! ### Rows of elements of several cells -/
section
variable {β : Type} [Inhabited β] {enc : β → List Value} {k : Nat}
theorem flatK_flat (hk : ∀ x, (enc x).length = k) (hk0 : 0 < k) : ∀ (xs : List β), (flatK enc k xs.toArray).toList = xs.flatMap enc := fun xs => by
  have hl : ∀ (ys : List β), (ys.flatMap enc).length = ys.length * k := fun ys => by
    induction ys with
    | nil => simp
    | cons y ys ih => rw [List.flatMap_cons, List.length_append, ih, hk, List.length_cons, Nat.succ_mul]; omega
  have hg : ∀ (ys : List β) (t : Nat), t < ys.length * k → (ys.flatMap enc)[t]? = (enc (ys[t / k]!))[t % k]? := fun ys => by
    induction ys with
    | nil => intro t ht; simp at ht
    | cons y ys ih =>
      intro t ht
      rw [List.flatMap_cons]
      by_cases h : t < k
      · rw [List.getElem?_append_left (by rw [hk]; exact h), Nat.div_eq_of_lt h, Nat.mod_eq_of_lt h]
        rfl
      · rw [List.length_cons, Nat.succ_mul] at ht
        rw [List.getElem?_append_right (by rw [hk]; omega), hk, ih (t - k) (by omega)]
        have h1 : t / k = (t - k) / k + 1 := by rw [Nat.div_eq, if_pos ⟨hk0, by omega⟩]
        have h2 : t % k = (t - k) % k := by rw [Nat.mod_eq_sub_mod (by omega)]
        rw [h1, h2]
        rfl
  apply List.ext_getElem?
  intro t
  by_cases ht : t < xs.length * k
  · rw [hg xs t ht]
    have hm : t % k < k := Nat.mod_lt _ hk0
    have hq : t / k < xs.length := Nat.div_lt_of_lt_mul (by rw [Nat.mul_comm]; exact ht)
    have : t < (flatK enc k xs.toArray).size := by rw [size_flatK]; simpa using ht
    rw [Array.getElem?_toList, Array.getElem?_eq_getElem this]
    have h1 := get_flatK enc k xs.toArray t (by simpa using ht)
    rw [getElem!_pos _ t this] at h1
    rw [h1]
    have : xs.toArray[t / k]! = xs[t / k]! := by simp
    rw [this, getElem!_pos _ (t % k) (by rw [hk]; exact hm), List.getElem?_eq_getElem (by rw [hk]; exact hm)]
  · have h1 : (xs.flatMap enc).length ≤ t := by rw [hl]; omega
    rw [List.getElem?_eq_none (l := xs.flatMap enc) h1, List.getElem?_eq_none (by rw [Array.length_toList, size_flatK]; simpa using ht)]
variable {R : Res} {l : List HProp} {w : World} {g n c e : Nat} {os : Array Obj} {cur : Array Value} {xs ys : List β}
theorem holdsK_block (hk : ∀ x, (enc x).length = k) (hk0 : 0 < k) (hb : w.heap[g]? = some (.cells cur e (0, 0))) (ht : cur.toList.take (xs.length * k) = xs.flatMap enc) : HoldsK enc k w g 0 xs.toArray := by
  unfold HoldsK
  have h1 := holds_block (enc := (id : Value → Value)) (xs := xs.flatMap enc) hb (by
    rw [List.map_id, ← ht, List.length_take]
    have hlen : (xs.flatMap enc).length = xs.length * k := by rw [← flatK_flat hk hk0]; simp
    have : (cur.toList.take (xs.length * k)).length = xs.length * k := by rw [ht, hlen]
    rw [List.length_take] at this
    rw [this])
  rw [← flatK_flat hk hk0] at h1
  exact h1
theorem sat.sortedK (hk : ∀ x, (enc x).length = k) (hk0 : 0 < k) (hs : sat R (own e k (some ⟨g, 0, none⟩) xs.length c (xs.flatMap enc) :: l) w) (hl : ys.length = xs.length) :
    sat R (own e k (some ⟨g, 0, none⟩) xs.length c (ys.flatMap enc) :: l) (sortWorldK enc k w g 0 n ys.toArray os) := by
  have hf : ∀ zs : List β, (zs.flatMap enc).length = zs.length * k := fun zs => by rw [← flatK_flat hk hk0]; simp
  obtain ⟨h, o, s⟩ := hs.head
  rcases o.2 with ⟨h0, _⟩ | ⟨g', cur, h1, hg, h3, h4, h5, h6⟩
  · cases h0
  · cases h1
    have hgw : w.heap[g]? = some (.cells cur e) := s g _ hg
    have hfl : flatK enc k ys.toArray = (ys.flatMap enc).toArray := by apply Array.ext'; rw [flatK_flat hk hk0]
    have hq : (ys.flatMap enc).length ≤ cur.size := by rw [hf, hl, h5]; exact Nat.mul_le_mul_right _ h3
    unfold sortWorldK putRowK
    rw [hfl]
    obtain ⟨A', c', hv, hs'⟩ := hs.grown (v' := .slice (some ⟨g, 0, none⟩) xs.length c) (m' := xs.length) (ys := ys.flatMap enc) (grownBy_sorted (enc := (id : Value → Value)) (n := n) (os := os) (ys.flatMap enc).toArray) (Nat.le_add_right _ _)
      ⟨by rw [hf, hl], .inr ⟨g, c, _, rfl, Nat.zero_le _, heap_sorted (enc := (id : Value → Value)) _ hgw, h3, h4, by simp [putCells, h5], by
        rw [← hl, ← hf]
        have := take_putCells (enc := (id : Value → Value)) cur (ys.flatMap enc) hq
        rw [List.map_id] at this
        exact this⟩⟩ (.inl rfl)
    cases hv
    exact hs'
/-- slices.SortFunc. -/
theorem sortk {P : Program} {ρ : Ren} (L : SlLaysF0.n6 P ρ) (hk : ∀ x, (enc x).length = k) (hk0 : 0 < k) (h1 : ∀ x, ∀ v ∈ enc x, v.oneCell' = true) (aE : ∀ w, (isAgg (ρ.t 24)).run P w = .ok true w) (zE : ∀ w, (Go.sizeOf (ρ.t 24)).run P w = .ok k w)
    (cf : β → β → Int) (hO : SWO (ltOf cf)) (hT : ∀ x y, (ltOf cf) x y = false → (ltOf cf) y x = false → x = y) (gf : Nat) (eg : ∀ args w, (callFunc gf args).run P w = .ok (.enter gf args) w) (hb : xs.length < 4611686018427387904)
    (hcmp : ∀ W : World, (∀ b o, b ≠ g → w.heap[b]? = some o → W.heap[b]? = some o) → ∀ x y, Calls P gf #[.agg (enc x).toArray, .agg (enc y).toArray] W fun e w' => e = .returned (.int .i64 (cf x y)) ∧ ∃ q os', w' = Sort.grow (W.drewN q) os')
    (hs : sat R (own e k (some ⟨g, 0, none⟩) xs.length c (xs.flatMap enc) :: l) w) :
    Calls P (ρ.f 6) #[.slice (some ⟨g, 0, none⟩) xs.length c, .func (.func gf) #[] #[]] w fun e' w' => e' = .returned (.tuple #[]) ∧ sat R (own e k (some ⟨g, 0, none⟩) xs.length c ((xs.mergeSort fun x y => !(ltOf cf) y x).flatMap enc) :: l) w' := by
  obtain ⟨h, o, s⟩ := hs.head
  rcases o.2 with ⟨h0, _⟩ | ⟨g', cur, h1', hg, h3, h4, h5, h6⟩
  · cases h0
  · cases h1'
    have hgw : w.heap[g]? = some (.cells cur e) := s g _ hg
    have hsz : xs.toArray.size = xs.length := by simp
    have hrun := AnyQ.slices_SortFunc_total L k aE zE enc hk h1 cf hO gf #[] g 0 c xs.toArray w eg (fun m os dk hdk x y => by
      have := hcmp (sortWorldK enc k w g 0 m dk os) (fun b o hb ho => by
        have hw := (grownBy_sorted (w := w) (enc := (id : Value → Value)) (g := g) (n := m) (os := os) (flatK enc k dk)).block b (Array.getElem?_eq_some_iff.1 ho).1 (fun e => hb (by cases e; rfl))
        exact hw.trans ho) x y
      simpa using this) (holdsK_block hk hk0 hgw h6) (Array.getElem?_eq_some_iff.1 hgw).1 (by rw [hsz]; exact hb) hT
    rw [hsz] at hrun
    refine hrun.mono fun e' w' ⟨he, m, os, hw⟩ => ⟨he, ?_⟩
    subst hw
    exact sat.sortedK hk hk0 hs (by simp)
end
section
variable {P : Program} {ρ : Ren} {α : Type}
/-- Plain structs, put in order by what parts whatever two that are not one. -/
theorem sortf_fl_spec [Inhabited α] (L : SlLaysF0.n6 P ρ) (F : Fl α) (aE : ∀ w, (isAgg (ρ.t 24)).run P w = .ok true w) (zE : ∀ w, (Go.sizeOf (ρ.t 24)).run P w = .ok F.sz w)
    (cf : α → α → Int) (hO : SWO (ltOf cf)) (hT : ∀ x y, (ltOf cf) x y = false → (ltOf cf) y x = false → x = y) (gf : Nat) (eg : ∀ args w, (callFunc gf args).run P w = .ok (.enter gf args) w)
    (hcmp : ∀ R x y, Spec P gf [.agg (F.enc x).toArray, .agg (F.enc y).toArray] R [] (fun v l' => v = .int .i64 (cf x y) ∧ [] = l')) (R : Res) (l : List HProp) {e n c : Nat} {A : Option Addr} {xs : List α} (hb : xs.length < 4611686018427387904) :
    Spec P (ρ.f 6) [.slice A n c, .func (.func gf) #[] #[]] R (row F e A n c xs :: l) (fun v l' => v = .tuple #[] ∧ row F e A n c (xs.mergeSort fun x y => !(ltOf cf) y x) :: l = l') := fun w hs => by
  have hn : xs.length = n := let ⟨_, o, _⟩ := hs.head; row_len o
  subst hn
  obtain ⟨h, o, s⟩ := hs.head
  rcases o.2 with ⟨rfl, h0, rfl⟩ | ⟨g, cur, rfl, hg, h3, h4, h5, h6⟩
  · have hx : xs = [] := List.eq_nil_of_length_eq_zero h0
    subst hx
    refine (AnyF.slices_SortFunc_none L none 0 _ w).mono fun e' w' ⟨he, hw⟩ => ⟨_, _, he, ⟨rfl, rfl⟩, ?_⟩
    subst hw
    simpa using hs
  · refine (sortk L F.len F.pos F.one aE zE cf hO hT gf eg hb (fun W _ x y => (hcmp _ x y).reads) hs).mono fun e' w' ⟨he, h7⟩ => ⟨_, _, he, ⟨rfl, rfl⟩, ?_⟩
    have : (xs.mergeSort fun x y => !(ltOf cf) y x).length = xs.length := by simp
    exact h7.imp fun h o => o
/-- Structs that hold slices, put in order by what parts whatever two of them. -/
theorem sortf_grow_spec (L : SlLaysF0.n6 P ρ) (T : Ow α) (aE : ∀ w, (isAgg (ρ.t 24)).run P w = .ok true w) (zE : ∀ w, (Go.sizeOf (ρ.t 24)).run P w = .ok T.sz w)
    (cf : α → α → Int) (hO : SWO (ltOf cf)) (gf : Nat) (eg : ∀ args w, (callFunc gf args).run P w = .ok (.enter gf args) w)
    (hcmp : ∀ R x y cs cs', T.rep.K R.heap x cs → T.rep.K R.heap y cs' → Spec P gf [.agg cs.toArray, .agg cs'.toArray] R [] (fun v l' => v = .int .i64 (cf x y) ∧ [] = l')) (R : Res) (l : List HProp) {e n c : Nat} {A : Option Addr} {xs : List α} (hb : xs.length < 4611686018427387904)
    (hT : xs.Pairwise fun x y => ¬ ((ltOf cf) x y = false ∧ (ltOf cf) y x = false)) :
    Spec P (ρ.f 6) [.slice A n c, .func (.func gf) #[] #[]] R (Bw.grow T e A n c xs :: l) (fun v l' => v = .tuple #[] ∧ Bw.grow T e A n c (xs.mergeSort fun x y => !(ltOf cf) y x) :: l = l') := fun w hs => by
  have hn : xs.length = n := let ⟨_, o, _⟩ := hs.head; (grow_len o).1
  subst hn
  obtain ⟨css, hbl, h2⟩ := sat.grow.1 hs
  rw [← hbl] at h2
  obtain ⟨h, o, s⟩ := h2.head
  rcases o.2 with ⟨rfl, h0, rfl⟩ | ⟨g, cur, rfl, hg, h3, h4, h5, h6⟩
  · have hx : xs = [] := List.eq_nil_of_length_eq_zero (hbl.symm.trans h0)
    subst hx
    refine (AnyF.slices_SortFunc_none L none 0 _ w).mono fun e' w' ⟨he, hw⟩ => ⟨_, _, he, ⟨rfl, rfl⟩, ?_⟩
    subst hw
    simpa using hs
  · by_cases hne : xs.length = 0
    · have : xs = [] := List.eq_nil_of_length_eq_zero hne
      subst this
      refine (AnyF.slices_SortFunc_none L (some ⟨g, 0, none⟩) c _ w).mono fun e' w' ⟨he, hw⟩ => ⟨_, _, he, ⟨rfl, rfl⟩, ?_⟩
      subst hw
      simpa using hs
    have hpos : 0 < xs.length := Nat.pos_of_ne_zero hne
    have hinh : Inhabited (Fin xs.length) := ⟨⟨0, hpos⟩⟩
    let ci : Fin xs.length → Raw T.sz := fun i => css[i.1]'(by rw [hbl]; exact i.2)
    let enc : Fin xs.length → List Value := fun i => (ci i).1
    let cf' : Fin xs.length → Fin xs.length → Int := fun i j => cf xs[i.1] xs[j.1]
    have hO' : SWO (ltOf cf') := ⟨fun x => hO.irrefl _, fun x y z => hO.trans _ _ _, fun x y z => hO.ntrans _ _ _⟩
    have hT' : ∀ x y, ltOf cf' x y = false → ltOf cf' y x = false → x = y := fun x y h1 h2 => by
      have hp := List.pairwise_iff_getElem.1 hT
      rcases Nat.lt_trichotomy x.1 y.1 with h3 | h3 | h3
      · exact absurd ⟨h1, h2⟩ (hp x.1 y.1 x.2 y.2 h3)
      · exact Fin.ext h3
      · exact absurd ⟨h2, h1⟩ (hp y.1 x.1 y.2 x.2 h3)
    have hcss : css = (List.finRange xs.length).map ci := by
      apply List.ext_getElem
      · simp [hbl]
      · intro i h1 h2
        simp [ci]
    have hfl : css.flatMap (Fl.raw T.sz T.pos).enc = (List.finRange xs.length).flatMap enc := by
      rw [hcss, List.flatMap_map]
      rfl
    have hgins : gins T xs css = (List.finRange xs.length).map fun i => T.own xs[i.1] (ci i).1 := by
      apply List.ext_getElem
      · simp [gins, hbl]
      · intro i h1 h2
        simp [gins, ci]
    have hlen : (List.finRange xs.length).length = css.length := by rw [List.length_finRange, hbl]
    have h2' : sat R (own e T.sz (some ⟨g, 0, none⟩) (List.finRange xs.length).length c ((List.finRange xs.length).flatMap enc) :: (gins T xs css ++ l)) w := by
      rw [hlen, ← hfl]; exact h2
    have hgw : w.heap[g]? = some (.cells cur e) := s g _ hg
    have hrun := sortk L (enc := enc) (fun x => (ci x).2.1) T.pos (fun x => (ci x).2.2) aE zE cf' hO' hT' gf eg (by simpa using hb) (fun W hW x y => by
      have hK : ∀ i : Fin xs.length, T.rep.K (wh W) xs[i.1] (ci i).1 := fun i => by
        obtain ⟨ok, k, ⟨k1, k2, ow, inn, dd, t1, t2⟩, dR, ss⟩ := h2
        obtain ⟨h', ro, sr⟩ := stars_get (stars_append.1 inn).choose_spec.choose_spec.1 (gins_get (T := T) (xs := xs) (css := css) (i := i.1) (List.getElem?_eq_getElem i.2) (List.getElem?_eq_getElem (by rw [hbl]; exact i.2)))
        have s3 : Sub h' k2 := sr.trans (stars_append.1 inn).choose_spec.choose_spec.2.2.2.1
        refine T.rd ro fun b ob hob => hW b ob (fun hbg => ?_) (ss b ob (t2 b ob (s3 b ob hob)))
        subst hbg
        have hgk : ∃ ob', k1 b = some ob' := by
          rcases ow.2 with ⟨e0, _⟩ | ⟨g2, cur2, e2, hg2, _⟩
          · cases e0
          · cases e2
            exact ⟨_, hg2⟩
        exact dd b _ _ hgk.choose_spec (s3 b ob hob)
      exact (hcmp (Res.of W) _ _ _ _ (hK x) (hK y)).reads) h2'
    rw [hlen, hbl] at hrun
    refine hrun.mono fun e' w' ⟨he, h7⟩ => ⟨_, _, he, ⟨rfl, rfl⟩, ?_⟩
    let ys := (List.finRange xs.length).mergeSort fun x y => !(ltOf cf') y x
    have hperm : ys.Perm (List.finRange xs.length) := List.mergeSort_perm _ _
    have hxs : (xs.mergeSort fun x y => !(ltOf cf) y x) = ys.map fun i => xs[i.1] := by
      show _ = ((List.finRange xs.length).mergeSort fun x y => !(ltOf cf') y x).map fun i => xs[i.1]
      rw [List.map_mergeSort (r := fun x y => !(ltOf cf') y x) (s := fun x y => !(ltOf cf) y x) (f := fun i : Fin xs.length => xs[i.1]) (fun a _ b _ => rfl)]
      congr 1
      apply List.ext_getElem
      · simp
      · intro i h1 h2
        simp
    rw [hxs]
    refine sat.grow.2 ⟨ys.map ci, by simp, ?_⟩
    have e1 : (ys.map ci).flatMap (Fl.raw T.sz T.pos).enc = ys.flatMap enc := by rw [List.flatMap_map]; rfl
    have e2 : gins T (ys.map fun i => xs[i.1]) (ys.map ci) = ys.map fun i => T.own xs[i.1] (ci i).1 := by
      apply List.ext_getElem
      · simp [gins]
      · intro i h1 h2
        simp [gins]
    have h8 : sat R (own e T.sz (some ⟨g, 0, none⟩) xs.length c (ys.flatMap enc) :: (gins T xs css ++ l)) w' := h7
    rw [e2]
    rw [hgins] at h8
    obtain ⟨ok, k, ⟨k1, k2, a, b, d, t1, t2⟩, dR, ss⟩ := h8
    refine ⟨ok, k, ⟨k1, k2, ?_, stars_perm (hperm.symm.map _) b, d, t1, t2⟩, dR, ss⟩
    show own e T.sz (some ⟨g, 0, none⟩) xs.length c ((ys.map ci).flatMap (Fl.raw T.sz T.pos).enc) k1
    rw [e1]
    exact a
end
/-! ### Comparators that are told by models -/
def gcf {α : Type} (c : α → α → Option Int) (x y : α) : Int := (c x y).getD 0
def CmpSwo {α : Type} (c : α → α → Option Int) : Prop := (∀ x y, (c x y).isSome = true) ∧ SWO (ltOf (gcf c))
def CmpTot {α : Type} (c : α → α → Option Int) : Prop := CmpSwo c ∧ ∀ x y, ltOf (gcf c) x y = false → ltOf (gcf c) y x = false → x = y
def CmpParts {α : Type} (c : α → α → Option Int) (xs : List α) : Prop := xs.Pairwise fun x y => ¬ (ltOf (gcf c) x y = false ∧ ltOf (gcf c) y x = false)
def byCmp {α : Type} (c : α → α → Option Int) (xs : List α) : List α := xs.mergeSort fun x y => !(ltOf (gcf c)) y x
theorem gcf_eq {α : Type} {c : α → α → Option Int} (h : CmpSwo c) (x y : α) : c x y = some (gcf c x y) := by
  have := h.1 x y
  unfold gcf
  cases hc : c x y with
  | none => rw [hc] at this; cases this
  | some v => rfl
end Go.Bw
