/- Ranging over a map of the call's own, in whatever order. Conditions: none. -/
import Derived.Test.YtbkooifhcekpmaaGreatBwKeys
import Derived.Maps.RangeRun
set_option linter.unusedVariables false
set_option linter.unusedSimpArgs false
set_option linter.unusedSectionVars false
namespace Go.Bw
open Go Go.RowKit

/-! ### A fold in whatever order -/
/-- What F comes to at each order of the list. -/
noncomputable def anyOrder {α β : Type} (xs : List α) (F : List α → Option β) : Option β :=
  open Classical in if h : ∃ r, ∀ ys, ys.Perm xs → F ys = some r then some h.choose else none
theorem anyOrder_some {α β : Type} {xs : List α} {F : List α → Option β} {r : β} : anyOrder xs F = some r ↔ ∀ ys, ys.Perm xs → F ys = some r := by
  unfold anyOrder
  constructor
  · intro h
    split at h
    · rename_i hx
      have := Option.some.inj h
      intro ys hy
      rw [← this]
      exact hx.choose_spec ys hy
    · cases h
  · intro h
    have hx : ∃ r, ∀ ys, ys.Perm xs → F ys = some r := ⟨r, h⟩
    rw [dif_pos hx]
    have h1 := hx.choose_spec xs (List.Perm.refl _)
    rw [h xs (List.Perm.refl _)] at h1
    exact h1.symm
theorem banyOrder {α β ω : Type} {xs : List α} {F : List α → Option β} {G : β → Option ω} {r : ω} (h : (anyOrder xs F).bind G = some r) : ∀ ys, ys.Perm xs → (F ys).bind G = some r := by
  obtain ⟨t, h1, h2⟩ := bsome h
  intro ys hy
  rw [anyOrder_some.1 h1 ys hy]
  exact h2
/-- Round after round. -/
def foldO {σ α : Type} (step : σ → α → Option σ) : σ → List α → Option σ
  | s, [] => some s
  | s, x :: xs => (step s x).bind fun t => foldO step t xs
theorem foldO_app {σ α : Type} {step : σ → α → Option σ} : ∀ {xs ys : List α} {s : σ}, foldO step s (xs ++ ys) = (foldO step s xs).bind fun t => foldO step t ys
  | [], _, _ => rfl
  | x :: xs, ys, s => by
    show (step s x).bind _ = ((step s x).bind _).bind _
    cases step s x with
    | none => rfl
    | some t => exact foldO_app (xs := xs)
theorem foldO_go {σ α ω : Type} {step : σ → α → Option σ} {kvs : List α} {done rest : List α} {x : α} {s0 s : σ} {G : σ → Option ω} {r : ω} (h : ∀ ys, ys.Perm kvs → (foldO step s0 ys).bind G = some r) (hs : foldO step s0 done = some s) (hp : (done ++ x :: rest).Perm kvs) :
    ∃ t, step s x = some t ∧ foldO step s0 (done ++ [x]) = some t := by
  have := h _ hp
  rw [foldO_app, hs] at this
  obtain ⟨u, h1, _⟩ := bsome this
  obtain ⟨t, h2, _⟩ := bsome (show (step s x).bind (fun t => foldO step t rest) = some u from h1)
  refine ⟨t, h2, ?_⟩
  rw [foldO_app, hs]
  show (step s x).bind (fun t => foldO step t []) = _
  rw [h2]
  rfl
theorem foldO_end {σ α ω : Type} {step : σ → α → Option σ} {kvs : List α} {done : List α} {s0 s : σ} {G : σ → Option ω} {r : ω} (h : ∀ ys, ys.Perm kvs → (foldO step s0 ys).bind G = some r) (hs : foldO step s0 done = some s) (hp : done.Perm kvs) : G s = some r := by
  have := h _ hp
  rw [hs] at this
  exact this
/-- A loop over a map: what is behind it comes to the same in each order. -/
noncomputable def ordered {σ τ α β : Type} (kvs : List α) (step : σ → α → Option σ) (s0 : σ) (out : σ → τ) (f : τ → Option β) : Option β := anyOrder kvs fun ys => (foldO step s0 ys).bind fun s => f (out s)
theorem bordered {σ τ α β ω : Type} {kvs : List α} {step : σ → α → Option σ} {s0 : σ} {out : σ → τ} {f : τ → Option β} {G0 : β → Option ω} {r : ω} (h : (ordered kvs step s0 out f).bind G0 = some r) :
    ∃ G : τ → Option ω, (∀ y, G y = (f y).bind G0) ∧ ∀ ys, ys.Perm kvs → (foldO step s0 ys).bind (fun s => G (out s)) = some r :=
  ⟨fun y => (f y).bind G0, fun _ => rfl, fun ys hy => by
    have := banyOrder h ys hy
    rwa [Option.bind_assoc] at this⟩
theorem rng_lt {α : Type} {kvs done tl : List α} {z : α} {m : Nat} (hp : (done ++ z :: tl).Perm kvs) (hm : m + done.length = kvs.length) : tl.length < m ∧ tl.length + (done ++ [z]).length = kvs.length := by
  have := hp.length_eq
  simp at this ⊢
  omega
/-! ### Places that are met once each -/
theorem range_all {α : Type} (xs : List α) : (List.range xs.length).filterMap (fun i => xs[i]?) = xs := by
  induction xs with
  | nil => rfl
  | cons x xs ih =>
    rw [List.length_cons, List.range_succ_eq_map, List.filterMap_cons, List.filterMap_map]
    simp only [List.getElem?_cons_zero, Function.comp_def, List.getElem?_cons_succ]
    rw [ih]
theorem idx_done {α : Type} {xs done : List α} {is : List Nat} (hd : done.map some = is.map fun i => xs[i]?) : done = is.filterMap fun i => xs[i]? := by
  induction is generalizing done with
  | nil => cases done <;> simp at hd ⊢
  | cons i is ih =>
    cases done with
    | nil => simp at hd
    | cons x done =>
      simp only [List.map_cons, List.cons.injEq] at hd
      rw [List.filterMap_cons, ← hd.1, ← ih hd.2]
theorem idx_perm {α : Type} {xs done : List α} {is : List Nat} (hn : is.Nodup) (hl : ∀ i ∈ is, i < xs.length) (hd : done.map some = is.map fun i => xs[i]?) : ∃ rest, (done ++ rest).Perm xs := by
  refine ⟨((List.range xs.length).filter fun i => !is.contains i).filterMap fun i => xs[i]?, ?_⟩
  rw [idx_done hd, ← List.filterMap_append]
  have hp : (is ++ (List.range xs.length).filter fun i => !is.contains i).Perm (List.range xs.length) := by
    refine (List.perm_ext_iff_of_nodup ?_ List.nodup_range).2 fun a => ?_
    · rw [List.nodup_append]
      refine ⟨hn, List.nodup_range.filter _, fun a ha b hb hab => ?_⟩
      subst hab
      simp at hb
      exact hb.2 ha
    · simp only [List.mem_append, List.mem_filter, List.mem_range]
      constructor
      · rintro (h | h)
        · exact hl a h
        · exact h.1
      · intro h
        by_cases ha : a ∈ is
        · exact .inl ha
        · exact .inr ⟨h, by simpa using ha⟩
  have := hp.filterMap fun i => xs[i]?
  rwa [range_all] at this
theorem idx_full {α : Type} {xs done : List α} {is : List Nat} (hn : is.Nodup) (hl : ∀ i ∈ is, i < xs.length) (hf : ∀ i < xs.length, i ∈ is) (hd : done.map some = is.map fun i => xs[i]?) : done.Perm xs := by
  rw [idx_done hd]
  have hp : is.Perm (List.range xs.length) := (List.perm_ext_iff_of_nodup hn List.nodup_range).2 fun a => by
    rw [List.mem_range]
    exact ⟨hl a, hf a⟩
  have := hp.filterMap fun i => xs[i]?
  rwa [range_all] at this
section
variable {κ ν : Type}
/-- A map, and an iterator that has met 'done'. -/
def rngo (kv : κ → Value) (vv : ν → Value) (b r : Nat) (kvs done : List (κ × ν)) : HProp := fun h =>
  ∃ (es : List MapEntry) (clock since stp : Nat) (seen : Array Nat) (is : List Nat), h b = some (.map es.toArray clock) ∧ h r = some (.mapIter (some b) since seen stp) ∧ b ≠ r ∧
    es.map (fun e => (e.key, e.val)) = kvs.map (fun p => (kv p.1, vv p.2)) ∧ es.Pairwise (fun x y => x.born < y.born) ∧ (∀ e ∈ es, e.born < clock) ∧ since = clock ∧ stp = clock ∧
    is.Nodup ∧ (∀ i ∈ is, i < kvs.length) ∧ (done.map some = is.map fun i => kvs[i]?) ∧ seen.toList.map some = is.map fun i => es[i]?.map (·.born)
end
section
variable {P : Program} [Tys P] {os : List Oper} {Q : Exit → Act → World → Prop} {rest : List Oper} {n : Nat} {ds : List Deferred} {R : Res} {env : List (Nat × Value)} {l l' : List HProp}
variable {d ty t : Nat} {pos : String} {af : Array Edge} {g : Option (Nat × Bool)} {κ ν : Type} [DecidableEq κ] {kv : κ → Value} {vv : ν → Value} {kvs done : List (κ × ν)} {b r kt et : Nat} {K : Act → World → Prop}
theorem At.rangeMap {x : Operand} {ii : TI} (f : Frt l (mapo kv vv b kvs) l') (hg : grd os env g = some true) (hi : ti P t = some ii) (hk : ii.k = .map kt et) (hx : ev env x = some (.map (some b))) (hd : Nat.blt d n = true)
    (h : ∀ r, At n ds R ((d, .pointer (some ⟨r, 0, none⟩)) :: env) (rngo kv vv b r kvs [] :: l') (wpList P os.toArray Q rest)) :
    At n ds R env l (wpList P os.toArray Q (⟨some d, .range t x, ty, pos, af, g⟩ :: rest)) := op_ex hg rfl hd fun a w e hs => by
  have hs1 := hs.frt f
  obtain ⟨es, clock, hb, _⟩ := sat_map hs1
  have hgo : (getObj b).run P w = .ok (.map es.toArray clock) w := MapKept.run_getObj_map hb
  have h1 := hs1.alloc (.mapIter (some b) clock #[] clock)
  refine ⟨_, w.alloc (.mapIter (some b) clock #[] clock), rngo kv vv b w.heap.size kvs [] :: l', ?_, ?_, h w.heap.size⟩
  · simp [execOp, Instr.range, e.ev hx, run_underlying ((ti_ok hi).map hk), hgo, Result.andThen]
  · obtain ⟨ok, h0, ⟨k1, k2, p1, ⟨k3, k4, m1, st, d2, s3, s4⟩, d1, s1, s2⟩, dR, ss⟩ := h1
    have d13 : Disj k1 k3 := d1.sub (Sub.refl _) s3
    refine ⟨ok, h0, ⟨uni k1 k3, k4, ?_, st, Disj.uni_l (d1.sub (Sub.refl _) s4) d2, uni_sub s1 (s3.trans s2), s4.trans s2⟩, dR, ss⟩
    obtain ⟨es', clock', hb', hm, hp, hc⟩ := m1
    have hne : b ≠ w.heap.size := fun e => by subst e; exact d13 _ _ _ p1 hb'
    have hbb : w.heap[b]? = some (.map es.toArray clock) := hb
    have heq : Obj.map es'.toArray clock' = .map es.toArray clock := by
      have h5 : (w.alloc (.mapIter (some b) clock #[] clock)).heap[b]? = some (.map es'.toArray clock') := ss _ _ (s2 _ _ (s3 _ _ hb'))
      rw [Below.heap_alloc _ _ _ (Array.getElem?_eq_some_iff.1 hb).1, hbb] at h5
      exact (Option.some.inj h5).symm
    cases heq
    exact ⟨es, clock, clock, clock, #[], [], uni_right d13 _ _ hb', uni_left k1 k3 _ _ p1, hne, hm, hp, hc, rfl, rfl, List.nodup_nil, by simp, by simp, by simp⟩
theorem sat_rng {w : World} (hs : sat R (rngo kv vv b r kvs done :: l) w) : ∃ (es : List MapEntry) (clock : Nat) (seen : Array Nat) (is : List Nat), w.heap[b]? = some (.map es.toArray clock) ∧ w.heap[r]? = some (.mapIter (some b) clock seen clock) ∧ b ≠ r ∧
    es.map (fun e => (e.key, e.val)) = kvs.map (fun p => (kv p.1, vv p.2)) ∧ es.Pairwise (fun x y => x.born < y.born) ∧ (∀ e ∈ es, e.born < clock) ∧
    is.Nodup ∧ (∀ i ∈ is, i < kvs.length) ∧ (done.map some = is.map fun i => kvs[i]?) ∧ seen.toList.map some = is.map fun i => es[i]?.map (·.born) := by
  obtain ⟨h1, ⟨es, clock, since, stp, seen, is, a1, a2, a3, a4, a5, a6, rfl, rfl, a7⟩, s⟩ := hs.head
  exact ⟨es, _, seen, is, s _ _ a1, s _ _ a2, a3, a4, a5, a6, a7⟩
theorem At.nextMap {x : Operand} (hg : grd os env g = some true) (hx : ev env x = some (.pointer (some ⟨r, 0, none⟩))) (f : Frt l (rngo kv vv b r kvs done) l') (hd : Nat.blt d n = true)
    (hF : done.Perm kvs → At n ds R ((d, .tuple #[.bool false]) :: env) (rngo kv vv b r kvs done :: l') (wpList P os.toArray Q rest))
    (hT : ∀ (z : κ × ν) tl, (done ++ z :: tl).Perm kvs → At n ds R ((d, .tuple #[.bool true, kv z.1, vv z.2]) :: env) (rngo kv vv b r kvs (done ++ [z]) :: l') (wpList P os.toArray Q rest)) :
    At n ds R env l (wpList P os.toArray Q (⟨some d, .next x false, ty, pos, af, g⟩ :: rest)) := op_ex hg rfl hd fun a w e hs => by
  have hs1 := hs.frt f
  obtain ⟨es, clock, seen, is, hb, hr, hne, hm, hbn, hcl, hn, hl, hdn, hsn⟩ := sat_rng hs1
  have hlen : es.length = kvs.length := map_len hm
  have hinj : ∀ i j, i < es.length → j < es.length → es[i]?.map (·.born) = es[j]?.map (·.born) → i = j := fun i j hi hj he => by
    rw [List.getElem?_eq_getElem hi, List.getElem?_eq_getElem hj] at he
    simp at he
    have hp := List.pairwise_iff_getElem.1 hbn
    rcases Nat.lt_trichotomy i j with h3 | h3 | h3
    · have := hp i j hi hj h3; omega
    · exact h3
    · have := hp j i hj hi h3; omega
  have hseen : ∀ i, i < es.length → (seen.contains (es[i]?.map (·.born)).get! = true ↔ i ∈ is) := fun i hi => by
    rw [List.getElem?_eq_getElem hi]
    simp only [Option.map_some, Option.get!_some]
    rw [Array.contains_iff_mem, ← Array.mem_toList_iff]
    constructor
    · intro h
      have : some es[i].born ∈ seen.toList.map some := List.mem_map_of_mem h
      rw [hsn] at this
      obtain ⟨j, hj, hje⟩ := List.mem_map.1 this
      have := hinj j i (by rw [hlen]; exact hl j hj) hi (by rw [hje, List.getElem?_eq_getElem hi]; rfl)
      subst this; exact hj
    · intro h
      have : es[i]?.map (·.born) ∈ seen.toList.map some := by rw [hsn]; exact List.mem_map_of_mem (f := fun i => es[i]?.map (·.born)) h
      obtain ⟨q, hq, hqe⟩ := List.mem_map.1 this
      rw [List.getElem?_eq_getElem hi] at hqe
      simp at hqe
      rw [← hqe]; exact hq
  rcases run_next_at (P := P) w ty r b clock clock seen es.toArray clock hr hb (fun x hx => hcl x (by simpa using hx)) (Nat.le_refl _) with ⟨h0, hrun⟩ | ⟨e1, he, w1, hal, hrun⟩
  · refine ⟨.tuple #[.bool false], w, rngo kv vv b r kvs done :: l', ?_, hs1, hF ?_⟩
    · simp only [execOp, e.ev hx, Sem.run_bind, hrun, Result.andThen, Sem.run_pure]
    · refine idx_full hn hl (fun i hi => ?_) hdn
      have hi' : i < es.length := by omega
      have := all_seen es.toArray seen h0 es[i] (by simp)
      refine (hseen i hi').1 ?_
      rw [List.getElem?_eq_getElem hi']
      simpa using this
  · obtain ⟨hem, hes⟩ := mem_left he
    have hem' : e1 ∈ es := by simpa using hem
    obtain ⟨i, hi, hie⟩ := List.getElem_of_mem hem'
    have hi' : i < kvs.length := by omega
    have hnot : i ∉ is := fun h => by
      have := (hseen i hi).2 h
      rw [List.getElem?_eq_getElem hi, hie] at this
      simp at this hes
      exact hes this
    have hkv : (e1.key, e1.val) = (kv kvs[i].1, vv kvs[i].2) := by
      have := congrArg (fun l => l[i]?) hm
      simp only [List.getElem?_map, List.getElem?_eq_getElem hi, List.getElem?_eq_getElem hi', Option.map_some, hie] at this
      exact Option.some.inj this
    obtain ⟨hk1, hk2⟩ := Prod.mk.inj hkv
    have hn' : (is ++ [i]).Nodup := by
      rw [List.nodup_append]
      exact ⟨hn, by simp, fun a ha c hc hac => by simp at hc; subst hc hac; exact hnot ha⟩
    have hl' : ∀ j ∈ is ++ [i], j < kvs.length := fun j hj => by
      rcases List.mem_append.1 hj with h | h
      · exact hl j h
      · simp at h; subst h; exact hi'
    have hdn' : (done ++ [kvs[i]]).map some = (is ++ [i]).map fun j => kvs[j]? := by
      rw [List.map_append, List.map_append, hdn]
      simp [hi']
    obtain ⟨tl, htl⟩ := idx_perm hn' hl' hdn'
    refine ⟨.tuple #[.bool true, kv kvs[i].1, vv kvs[i].2], ChangeMaps.setBlock w1 r (.mapIter (some b) clock (seen.push e1.born) clock), rngo kv vv b r kvs (done ++ [kvs[i]]) :: l', ?_, ?_, hT kvs[i] tl (by simpa using htl)⟩
    · simp only [execOp, e.ev hx, Sem.run_bind, hrun, Result.andThen, Sem.run_pure, hk1, hk2]
    · have hs2 : sat R (rngo kv vv b r kvs done :: l') w1 := by rcases hal with rfl | rfl <;> first | exact hs1 | exact hs1.drew
      have hb1 : w1.heap[b]? = some (.map es.toArray clock) := by rcases hal with rfl | rfl <;> exact hb
      have hr1 : w1.heap[r]? = some (.mapIter (some b) clock seen clock) := by rcases hal with rfl | rfl <;> exact hr
      obtain ⟨h1, ⟨es2, c2, s2, q2, seen2, is2, a1, a2, _⟩, s, kk⟩ := hs2.upd
      have hset := MapKept.heap_set (o' := .mapIter (some b) clock (seen.push e1.born) clock) hr1
      refine kk _ (fun x => if x = r then some (.mapIter (some b) clock (seen.push e1.born) clock) else h1 x) _ ⟨es, clock, clock, clock, seen.push e1.born, is ++ [i], ?_, if_pos rfl, hne, hm, hbn, hcl, rfl, rfl, hn', hl', hdn', ?_⟩ rfl rfl rfl (Nat.le_refl _) (fun x o hx hnn => ?_) (fun x o hx => ?_) (fun x o hx => ?_)
      · show (if b = r then _ else h1 b) = _
        rw [if_neg hne]
        have := s _ _ a1
        simp only [wh] at this
        rw [hb1] at this
        rw [a1]; exact this.symm
      · rw [Array.toList_push, List.map_append, hsn, List.map_append]
        simp [hi, hie]
      · have hxr : x ≠ r := fun h => by subst h; rw [a2] at hnn; cases hnn
        show (w1.heap.setIfInBounds r _)[x]? = _
        rw [hset.2 x hxr]; exact hx
      · by_cases hxr : x = r
        · subst hxr
          have hx : (if x = x then some (Obj.mapIter (some b) clock (seen.push e1.born) clock) else h1 x) = some o := hx
          rw [if_pos rfl] at hx
          cases hx
          exact hset.1
        · have hx : (if x = r then some (Obj.mapIter (some b) clock (seen.push e1.born) clock) else h1 x) = some o := hx
          rw [if_neg hxr] at hx
          show (w1.heap.setIfInBounds r _)[x]? = _
          rw [hset.2 x hxr]
          exact s x o hx
      · by_cases hxr : x = r
        · subst hxr; exact .inl ⟨_, a2⟩
        · have hx : (if x = r then some (Obj.mapIter (some b) clock (seen.push e1.born) clock) else h1 x) = some o := hx
          rw [if_neg hxr] at hx; exact .inl ⟨o, hx⟩
theorem Y.entry {x : Operand} {z : κ × ν} {dd : Option Nat} (f : Frt l (rngo kv vv b r kvs (done ++ [z])) l') (hx : ev env x = some (.pointer (some ⟨r, 0, none⟩))) : Y P n ds R env l ⟨dd, .entry x, ty, pos, af, g⟩ (.tuple #[kv z.1, vv z.2]) := fun a w e hs => by
  have hs1 := hs.frt f
  obtain ⟨es, clock, seen, is, hb, hr, hne, hm, hbn, hcl, hn, hl, hdn, hsn⟩ := sat_rng hs1
  have hlen : es.length = kvs.length := map_len hm
  rcases List.eq_nil_or_concat is with rfl | ⟨is0, i, rfl⟩
  · simp at hdn
  · rw [List.concat_eq_append] at *
    simp only [List.map_append, List.map_cons, List.map_nil] at hdn hsn
    have hi : i < kvs.length := hl i (by simp)
    have hie : i < es.length := by omega
    have hz : some z = kvs[i]? := by
      have := List.append_inj_right' hdn rfl
      simpa using this
    rw [List.getElem?_eq_getElem hi] at hz
    have hz' := Option.some.inj hz
    have hkv : (es[i].key, es[i].val) = (kv z.1, vv z.2) := by
      have := congrArg (fun l => l[i]?) hm
      simp only [List.getElem?_map, List.getElem?_eq_getElem hie, List.getElem?_eq_getElem hi, Option.map_some] at this
      rw [hz']
      exact Option.some.inj this
    obtain ⟨hk1, hk2⟩ := Prod.mk.inj hkv
    have hsz : seen.toList ≠ [] := fun h => by rw [h] at hsn; simp at hsn
    have hseen : ∃ s0 : Array Nat, seen = s0.push es[i].born := by
      refine ⟨⟨seen.toList.dropLast⟩, ?_⟩
      apply Array.ext'
      rw [Array.toList_push]
      show seen.toList = seen.toList.dropLast ++ [es[i].born]
      have h1 := List.dropLast_concat_getLast hsz
      have h2 : seen.toList.getLast hsz = es[i].born := by
        have h3 : (seen.toList.map some).getLast? = some (some es[i].born) := by rw [hsn]; simp [hie]
        rw [List.getLast?_map, List.getLast?_eq_some_getLast hsz] at h3
        simpa using h3
      rw [← h2]; exact h1.symm
    obtain ⟨s0, hs0⟩ := hseen
    rw [hs0] at hr
    have := run_entry_at (P := P) w r b clock s0 es.toArray clock es[i] hr hb (by simp) (by
      show (es.map (·.born)).Nodup
      exact List.pairwise_map.2 (hbn.imp fun h => Nat.ne_of_lt h))
    simp only [execOp, e.ev hx, this, Sem.run_bind, Result.andThen, Sem.run_pure, hk1, hk2]
theorem At.rngEnd (f : Frt l (rngo kv vv b r kvs done) l') (h : At n ds R env (mapo kv vv b kvs :: l') K) : At n ds R env l K := fun a w e hs => h a w e ((hs.frt f).imp fun h ⟨es, clock, _, _, _, _, a1, _, _, a4, a5, a6, _⟩ => ⟨es, clock, a1, a4, a5, a6⟩)
end
end Go.Bw
