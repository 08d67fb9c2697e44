/- slices.SortFunc at rows of rows of the call's own, put in order by their first elements. Conditions: none. -/
import Derived.Test.YtbkooifhcekpmaaGreatBwSorts
import Derived.Shelf.SlSortCmp.NoneTotal
set_option linter.unusedVariables false
set_option linter.unusedSimpArgs false
set_option linter.unusedSectionVars false
namespace Go.Bw
open Go Go.RowKit Go.Sort Go.Proofs Go.Shelf

theorem stars_perm {l : List HProp} : ∀ {L L' : List HProp}, L.Perm L' → ∀ {h : PHeap}, stars (L ++ l) h → stars (L' ++ l) h := by
  intro L L' p
  induction p with
  | nil => exact fun s => s
  | cons x p ih =>
    rintro h ⟨h1, h2, a, b, d, s1, s2⟩
    exact ⟨h1, h2, a, ih b, d, s1, s2⟩
  | swap x y L =>
    intro h s
    exact stars_frt (.s .z) s
  | trans p q ih1 ih2 => exact fun s => ih2 (ih1 s)
/-- What a slice's first cell holds. -/
def hd (W : World) (A : Option Addr) (x : Int) : Prop := ∃ g off, A = some ⟨g, off, none⟩ ∧ W.cell? ⟨g, off, none⟩ = some (.int .i64 x)
def byHead (xss : List (List Int)) : List (List Int) := xss.mergeSort fun x y => decide (gt x 0 ≤ gt y 0)
section
variable {P : Program} {ρ : Ren}
theorem sortf_spec (L : SlLaysF.n6 P ρ) (L0 : SlLaysF0.n6 P ρ) (gf : Nat) (eg : ∀ args w, (callFunc gf args).run P w = .ok (.enter gf args) w)
    (hcmp : ∀ (W : World) (A B : Option Addr) (n c k b : Nat) (x y : Int), 0 < n → 0 < k → hd W A x → hd W B y → 0 ≤ x → x ≤ 4611686018427387904 → 0 ≤ y → y ≤ 4611686018427387904 →
      Calls P gf #[.slice A n c, .slice B k b] W fun e w' => e = .returned (.int .i64 (x - y)) ∧ ∃ q, w' = W.drewN q)
    (R : Res) (l : List HProp) {ei e n c : Nat} {A : Option Addr} {xss : List (List Int)} (hx : ∀ x ∈ xss, x ≠ [] ∧ 0 ≤ gt x 0 ∧ gt x 0 ≤ 4611686018427387904) (hdis : (xss.map fun x => gt x 0).Nodup) (hb : xss.length < 4611686018427387904) :
    Spec P (ρ.f 6) [.slice A n c, .func (.func gf) #[] #[]] R (rows (Fl.int .i64) ei e A n c xss :: l) (fun v l' => v = .tuple #[] ∧ rows (Fl.int .i64) ei e A n c (byHead xss) :: l = l') := fun w hs => by
  have hn : xss.length = n := let ⟨_, o, _⟩ := hs.head; (rows_len o).1
  subst hn
  by_cases hne : xss.length = 0
  · have : xss = [] := List.eq_nil_of_length_eq_zero hne
    subst this
    refine (AnyF.slices_SortFunc_none L0 A c _ w).mono fun e' w' ⟨he, hw⟩ => ⟨_, _, he, ⟨rfl, rfl⟩, ?_⟩
    subst hw
    simpa [byHead] using hs
  · obtain ⟨bs, hbl, h2⟩ := sat.rows.1 hs
    have hpos : 0 < xss.length := Nat.pos_of_ne_zero hne
    have hinh : Inhabited (Fin xss.length) := ⟨⟨0, hpos⟩⟩
    let enc : Fin xss.length → Value := fun i => .slice (bs[i.1]'(by rw [hbl]; exact i.2)).1 xss[i.1].length (bs[i.1]'(by rw [hbl]; exact i.2)).2
    let cf : Fin xss.length → Fin xss.length → Int := fun i j => gt xss[i.1] 0 - gt xss[j.1] 0
    have hlt : ∀ i j, ltOf cf i j = decide (gt xss[i.1] 0 < gt xss[j.1] 0) := fun i j => by
      unfold ltOf
      show decide (gt xss[i.1] 0 - gt xss[j.1] 0 < 0) = _
      apply decide_eq_decide.2
      omega
    have hO : SWO (ltOf cf) := ⟨fun x => by rw [hlt]; simp, fun x y z h1 h2 => by rw [hlt] at *; simp at *; omega, fun x y z h1 h2 => by rw [hlt] at *; simp at *; omega⟩
    have hT : ∀ x y, ltOf cf x y = false → ltOf cf y x = false → x = y := fun x y h1 h2 => by
      rw [hlt] at h1 h2
      simp at h1 h2
      have he : gt xss[x.1] 0 = gt xss[y.1] 0 := by omega
      have hp := List.pairwise_iff_getElem.1 hdis
      rcases Nat.lt_trichotomy x.1 y.1 with h3 | h3 | h3
      · exact absurd (by simpa using he) (hp x.1 y.1 (by simp) (by simp) h3)
      · exact Fin.ext h3
      · exact absurd (by simpa using he.symm) (hp y.1 x.1 (by simp) (by simp) h3)
    have hhdrs : hdrs bs xss = (List.finRange xss.length).map enc := by
      apply List.ext_getElem
      · simp [hdrs, hbl]
      · intro i h1 h2
        simp [hdrs, enc]
    have hinns : inns (Fl.int .i64) ei bs xss = (List.finRange xss.length).map fun i => row (Fl.int .i64) ei (bs[i.1]'(by rw [hbl]; exact i.2)).1 xss[i.1].length (bs[i.1]'(by rw [hbl]; exact i.2)).2 xss[i.1] := by
      apply List.ext_getElem
      · simp [inns, hbl]
      · intro i h1 h2
        simp [inns]
    obtain ⟨h, o, s⟩ := h2.head
    rcases o.2 with ⟨_, h0, _⟩ | ⟨g, cur, rfl, hg, h3, h4, h5, h6⟩
    · exact absurd h0 hne
    have hgw : w.heap[g]? = some (.cells cur e) := s g _ hg
    have hH : Holds enc w g 0 (List.finRange xss.length).toArray := holds_block (xs := List.finRange xss.length) hgw (by
      rw [List.length_finRange, ← hhdrs, ← h6, Nat.mul_one])
    have hsize : (List.finRange xss.length).toArray.size = xss.length := by simp
    have hcl : CmpReads P gf #[] enc cf g 0 (List.finRange xss.length).toArray.size w := fun m os dk hdk x y => by
      have hdx : ∀ i : Fin xss.length, hd (sortWorld enc w g 0 m dk os) (bs[i.1]'(by rw [hbl]; exact i.2)).1 (gt xss[i.1] 0) := fun i => by
        have hi : i.1 < bs.length := by rw [hbl]; exact i.2
        obtain ⟨ok, k, ⟨k1, k2, ow, inn, dd, t1, t2⟩, dR, ss⟩ := h2
        obtain ⟨m1, m2, ro, _, dm, u1, u2⟩ := stars_frt (frt_erase (l := l) (inns_get (F := Fl.int .i64) (ei := ei) (List.getElem?_eq_getElem hi) (List.getElem?_eq_getElem i.2))) inn
        have hp : 0 < xss[i.1].length := List.length_pos_iff.2 (hx _ (List.getElem_mem i.2)).1
        obtain ⟨g', cur', hA, hg', q3, q4, q5, q6⟩ := row_some ro hp
        have hgk : k1 g = some (.cells cur e) := by
          rcases ow.2 with ⟨e0, _⟩ | ⟨g2, cur2, e2, hg2, _⟩
          · cases e0
          · cases e2
            have : w.heap[g]? = some (.cells cur2 e) := ss g _ (t1 g _ hg2)
            rw [hgw] at this
            cases this
            exact hg2
        have hne' : g' ≠ g := fun e => by subst e; exact dd _ _ _ hgk (u1 _ _ hg')
        have hw' : w.heap[g']? = some (.cells cur' ei) := ss g' _ (t2 _ _ (u1 _ _ hg'))
        have hblk := (grownBy_sorted (w := w) (enc := enc) (g := g) (n := m) (os := os) dk).block g' (Array.getElem?_eq_some_iff.1 hw').1 (fun e => hne' (by cases e; rfl))
        refine ⟨g', 0, hA, ?_⟩
        have hc : (grow (putRow enc (Sort.ahead w m) g 0 dk) os).heap[g']? = some (.cells cur' ei) := by rw [hblk]; exact hw'
        show (grow (putRow enc (Sort.ahead w m) g 0 dk) os).cell? _ = _
        simp only [World.cell?, hc]
        have h7 := flat_get (Fl.int .i64) (xs := xss[i.1]) (i := 0) (x := gt xss[i.1] 0) (j := 0) (gt_some (i := 0) (by omega) (by omega)) (by decide)
        rw [← q6, List.getElem?_take] at h7
        split at h7
        · simpa [Fl.int] using h7
        · simp [Fl.int] at h7
      have hlx := fun i : Fin xss.length => hx _ (List.getElem_mem i.2)
      have hpx := fun i : Fin xss.length => List.length_pos_iff.2 (hlx i).1
      have := hcmp (sortWorld enc w g 0 m dk os) _ _ _ (bs[x.1]'(by rw [hbl]; exact x.2)).2 _ (bs[y.1]'(by rw [hbl]; exact y.2)).2 _ _ (hpx x) (hpx y) (hdx x) (hdx y) (hlx x).2.1 (hlx x).2.2 (hlx y).2.1 (hlx y).2.2
      simpa using this
    have hrun := Any.slices_SortFunc_total L enc (fun _ => rfl) cf hO gf #[] g 0 c (List.finRange xss.length).toArray w eg hcl.lays hH (Array.getElem?_eq_some_iff.1 hgw).1 (by rw [hsize]; exact hb) hT
    rw [hsize] at hrun
    refine hrun.mono fun e' w' ⟨he, m, os, hw⟩ => ⟨_, _, he, ⟨rfl, rfl⟩, ?_⟩
    subst hw
    let ys := (List.finRange xss.length).mergeSort fun x y => !(ltOf cf) y x
    have hperm : ys.Perm (List.finRange xss.length) := List.mergeSort_perm _ _
    have hxs : byHead xss = ys.map fun i => xss[i.1] := by
      show _ = ((List.finRange xss.length).mergeSort fun x y => !(ltOf cf) y x).map fun i => xss[i.1]
      rw [List.map_mergeSort (s := fun x y => decide (gt x 0 ≤ gt y 0)) (fun a _ b _ => by
        rw [hlt, ← decide_not]
        exact decide_eq_decide.2 (by omega))]
      unfold byHead
      congr 1
      apply List.ext_getElem
      · simp
      · intro i h1 h2
        simp
    have h2' : sat R (own e 1 (some ⟨g, 0, none⟩) (List.finRange xss.length).length c ((List.finRange xss.length).map enc) :: (inns (Fl.int .i64) ei bs xss ++ l)) w := by
      rw [List.length_finRange, ← hhdrs]; exact h2
    have h8 := sat.sorted (enc := enc) (n := m) (os := os) (ys := ys) h2' (by simp [ys])
    rw [hxs]
    have hlen : xss.length = (ys.map fun i => xss[i.1]).length := by simp [ys]
    refine sat.rows.2 ⟨ys.map fun i => bs[i.1]'(by rw [hbl]; exact i.2), by simp, ?_⟩
    have e1 : hdrs (ys.map fun i => bs[i.1]'(by rw [hbl]; exact i.2)) (ys.map fun i => xss[i.1]) = ys.map enc := by
      apply List.ext_getElem
      · simp [hdrs]
      · intro i h1 h2
        simp [hdrs, enc]
    have e2 : inns (Fl.int .i64) ei (ys.map fun i => bs[i.1]'(by rw [hbl]; exact i.2)) (ys.map fun i => xss[i.1]) = ys.map fun i => row (Fl.int .i64) ei (bs[i.1]'(by rw [hbl]; exact i.2)).1 xss[i.1].length (bs[i.1]'(by rw [hbl]; exact i.2)).2 xss[i.1] := by
      apply List.ext_getElem
      · simp [inns]
      · intro i h1 h2
        simp [inns]
    rw [e1, e2]
    rw [List.length_finRange, hinns] at h8
    obtain ⟨ok, k, ⟨k1, k2, a, b, d, t1, t2⟩, dR, ss⟩ := h8
    exact ⟨ok, k, ⟨k1, k2, a, stars_perm (hperm.symm.map _) b, d, t1, t2⟩, dR, ss⟩
end
end Go.Bw
