/- BuildPlaces, part 5: walks and plain laws. Conditions: none. -/
import Derived.Maps.RangeRun
import Derived.Test.YtfbjkcnefhgodaaGreatDoorProg
import Derived.Deep.QuietTactic
import Derived.Test.YtfbjkcnefhgodaaGreatDoorBwBuildPlacesD
set_option linter.unusedVariables false
set_option linter.unusedSimpArgs false
set_option linter.unusedSectionVars false
set_option maxRecDepth 100000
set_option maxHeartbeats 2000000
namespace Go.Bw
open Go Go.RowKit

noncomputable def anyOrder {α β : Type} (xs : List α) (F : List α → Option β) : Option β :=
 open Classical in if h : ∃ r, ∀ ys, ys.Perm xs → F ys = some r then some h.choose else none
theorem Q215 {α β : Type} {xs : List α} {F : List α → Option β} {r : β} : anyOrder xs F = some r ↔ ∀ ys, ys.Perm xs → F ys = some r := by
 unfold anyOrder
 constructor
 ·intro h
  split at h
  ·rename_i hx
   have := Option.some.inj h
   intro ys hy
   rw [← this]
   exact hx.choose_spec ys hy
  ·cases h
 ·intro h
  have hx : ∃ r, ∀ ys, ys.Perm xs → F ys = some r := ⟨r, h⟩
  rw [dif_pos hx]
  have h1 := hx.choose_spec xs (List.Perm.refl _)
  rw [h xs (List.Perm.refl _)] at h1
  exact h1.symm
theorem banyOrder {α β ω : Type} {xs : List α} {F : List α → Option β} {G : β → Option ω} {r : ω} (h : (anyOrder xs F).bind G = some r) : ∀ ys, ys.Perm xs → (F ys).bind G = some r := by
 obtain ⟨t, h1, h2⟩ := bsome h
 intro ys hy
 rw [Q215.1 h1 ys hy]
 exact h2
def foldO {σ α : Type} (step : σ → α → Option σ) : σ → List α → Option σ
 | s, [] => some s
 | s, x :: xs => (step s x).bind fun t => foldO step t xs
theorem Q193 {σ α : Type} {step : σ → α → Option σ} : ∀ {xs ys : List α} {s : σ}, foldO step s (xs ++ ys) = (foldO step s xs).bind fun t => foldO step t ys
 | [], _, _ => rfl
 | x :: xs, ys, s => by
  show (step s x).bind _ = ((step s x).bind _).bind _
  cases step s x with
  | none => rfl
  | some t => exact Q193 (xs := xs)
theorem foldO_go {σ α ω : Type} {step : σ → α → Option σ} {kvs : List α} {done rest : List α} {x : α} {s0 s : σ} {G : σ → Option ω} {r : ω} (h : ∀ ys, ys.Perm kvs → (foldO step s0 ys).bind G = some r) (hs : foldO step s0 done = some s) (hp : (done ++ x :: rest).Perm kvs) :
 ∃ t, step s x = some t ∧ foldO step s0 (done ++ [x]) = some t := by
 have := h _ hp
 rw [Q193, hs] at this
 obtain ⟨u, h1, _⟩ := bsome this
 obtain ⟨t, h2, _⟩ := bsome (show (step s x).bind (fun t => foldO step t rest) = some u from h1)
 refine ⟨t, h2, ?_⟩
 rw [Q193, hs]
 show (step s x).bind (fun t => foldO step t []) = _
 rw [h2]
 rfl
theorem foldO_end {σ α ω : Type} {step : σ → α → Option σ} {kvs : List α} {done : List α} {s0 s : σ} {G : σ → Option ω} {r : ω} (h : ∀ ys, ys.Perm kvs → (foldO step s0 ys).bind G = some r) (hs : foldO step s0 done = some s) (hp : done.Perm kvs) : G s = some r := by
 have := h _ hp
 rw [hs] at this
 exact this
noncomputable def ordered {σ τ α β : Type} (kvs : List α) (step : σ → α → Option σ) (s0 : σ) (out : σ → τ) (f : τ → Option β) : Option β := anyOrder kvs fun ys => (foldO step s0 ys).bind fun s => f (out s)
theorem bordered {σ τ α β ω : Type} {kvs : List α} {step : σ → α → Option σ} {s0 : σ} {out : σ → τ} {f : τ → Option β} {G0 : β → Option ω} {r : ω} (h : (ordered kvs step s0 out f).bind G0 = some r) :
 ∃ G : τ → Option ω, (∀ y, G y = (f y).bind G0) ∧ ∀ ys, ys.Perm kvs → (foldO step s0 ys).bind (fun s => G (out s)) = some r :=
 ⟨fun y => (f y).bind G0, fun _ => rfl, fun ys hy => by
  have := banyOrder h ys hy
  rwa [Option.bind_assoc] at this⟩
theorem rng_lt {α : Type} {kvs done tl : List α} {z : α} {m : Nat} (hp : (done ++ z :: tl).Perm kvs) (hm : m + done.length = kvs.length) : tl.length < m ∧ tl.length + (done ++ [z]).length = kvs.length := by
 have := hp.length_eq
 simp at this ⊢
 omega
theorem Q218 {α : Type} (xs : List α) : (List.range xs.length).filterMap (fun i => xs[i]?) = xs := by
 induction xs with
 | nil => rfl
 | cons x xs ih =>
  rw [List.length_cons, List.range_succ_eq_map, List.filterMap_cons, List.filterMap_map]
  simp only [List.getElem?_cons_zero, Function.comp_def, List.getElem?_cons_succ]
  rw [ih]
theorem Q238 {α : Type} {xs done : List α} {is : List Nat} (hd : done.map some = is.map fun i => xs[i]?) : done = is.filterMap fun i => xs[i]? := by
 induction is generalizing done with
 | nil => cases done <;> simp at hd ⊢
 | cons i is ih =>
  cases done with
  | nil => simp at hd
  | cons x done =>
   simp only [List.map_cons, List.cons.injEq] at hd
   rw [List.filterMap_cons, ← hd.1, ← ih hd.2]
theorem idx_perm {α : Type} {xs done : List α} {is : List Nat} (hn : is.Nodup) (hl : ∀ i ∈ is, i < xs.length) (hd : done.map some = is.map fun i => xs[i]?) : ∃ rest, (done ++ rest).Perm xs := by
 refine ⟨((List.range xs.length).filter fun i => !is.contains i).filterMap fun i => xs[i]?, ?_⟩
 rw [Q238 hd, ← List.filterMap_append]
 have hp : (is ++ (List.range xs.length).filter fun i => !is.contains i).Perm (List.range xs.length) := by
  refine (List.perm_ext_iff_of_nodup ?_ List.nodup_range).2 fun a => ?_
  ·rw [List.nodup_append]
   refine ⟨hn, List.nodup_range.filter _, fun a ha b hb hab => ?_⟩
   subst hab
   simp at hb
   exact hb.2 ha
  ·simp only [List.mem_append, List.mem_filter, List.mem_range]
   constructor
   ·rintro (h | h)
    ·exact hl a h
    ·exact h.1
   ·intro h
    by_cases ha : a ∈ is
    ·exact .inl ha
    ·exact .inr ⟨h, by simpa using ha⟩
 have := hp.filterMap fun i => xs[i]?
 rwa [Q218] at this
theorem idx_full {α : Type} {xs done : List α} {is : List Nat} (hn : is.Nodup) (hl : ∀ i ∈ is, i < xs.length) (hf : ∀ i < xs.length, i ∈ is) (hd : done.map some = is.map fun i => xs[i]?) : done.Perm xs := by
 rw [Q238 hd]
 have hp : is.Perm (List.range xs.length) := (List.perm_ext_iff_of_nodup hn List.nodup_range).2 fun a => by
  rw [List.mem_range]
  exact ⟨hl a, hf a⟩
 have := hp.filterMap fun i => xs[i]?
 rwa [Q218] at this
section
variable {κ ν : Type}
def rngo (kv : κ → Value) (vv : ν → Value) (b r : Nat) (kvs done : List (κ × ν)) : HProp := fun h =>
 ∃ (es : List MapEntry) (clock since stp : Nat) (seen : Array Nat) (is : List Nat), h b = some (.map es.toArray clock) ∧ h r = some (.mapIter (some b) since seen stp) ∧ b ≠ r ∧
  es.map (fun e => (e.key, e.val)) = kvs.map (fun p => (kv p.1, vv p.2)) ∧ es.Pairwise (fun x y => x.born < y.born) ∧ (∀ e ∈ es, e.born < clock) ∧ since = clock ∧ stp = clock ∧
  is.Nodup ∧ (∀ i ∈ is, i < kvs.length) ∧ (done.map some = is.map fun i => kvs[i]?) ∧ seen.toList.map some = is.map fun i => es[i]?.map (·.born)
end
section
variable {P : Program} [Tys P] {os : List Oper} {Q : Exit → Act → World → Prop} {rest : List Oper} {n : Nat} {ds : List Deferred} {R : Res} {env : List (Nat × Value)} {l l' : List HProp}
variable {d ty t : Nat} {pos : String} {af : Array Edge} {g : Option (Nat × Bool)} {κ ν : Type} [DecidableEq κ] {kv : κ → Value} {vv : ν → Value} {kvs done : List (κ × ν)} {b r kt et : Nat} {K : Act → World → Prop}
theorem At.rangeMap {x : Operand} {ii : TI} (f : Frt l (mapo kv vv b kvs) l') (hg : grd os env g = some true) (hi : ti P t = some ii) (hk : ii.k = .map kt et) (hx : ev env x = some (.map (some b))) (hd : Nat.blt d n = true)
 (h : ∀ r, At n ds R ((d, .pointer (some ⟨r, 0, none⟩)) :: env) (rngo kv vv b r kvs [] :: l') (wpList P os.toArray Q rest)) :
 At n ds R env l (wpList P os.toArray Q (⟨some d, .range t x, ty, pos, af, g⟩ :: rest)) := Q79 hg rfl hd fun a w e hs => by
 have hs1 := hs.frt f
 obtain ⟨es, clock, hb, _⟩ := Q170 hs1
 have hgo : (getObj b).run P w = .ok (.map es.toArray clock) w := MapKept.run_getObj_map hb
 have h1 := hs1.alloc (.mapIter (some b) clock #[] clock)
 refine ⟨_, w.alloc (.mapIter (some b) clock #[] clock), rngo kv vv b w.heap.size kvs [] :: l', ?_, ?_, h w.heap.size⟩
 ·simp [execOp, Instr.range, e.ev hx, run_underlying ((Q12 hi).map hk), hgo, Result.andThen]
 ·obtain ⟨ok, h0, ⟨k1, k2, p1, ⟨k3, k4, m1, st, d2, s3, s4⟩, d1, s1, s2⟩, dR, ss⟩ := h1
  have d13 : Disj k1 k3 := d1.sub (Sub.refl _) s3
  refine ⟨ok, h0, ⟨uni k1 k3, k4, ?_, st, Disj.uni_l (d1.sub (Sub.refl _) s4) d2, Q101 s1 (s3.trans s2), s4.trans s2⟩, dR, ss⟩
  obtain ⟨es', clock', hb', hm, hp, hc⟩ := m1
  have hne : b ≠ w.heap.size := fun e => by subst e; exact d13 _ _ _ p1 hb'
  have hbb : w.heap[b]? = some (.map es.toArray clock) := hb
  have heq : Obj.map es'.toArray clock' = .map es.toArray clock := by
   have h5 : (w.alloc (.mapIter (some b) clock #[] clock)).heap[b]? = some (.map es'.toArray clock') := ss _ _ (s2 _ _ (s3 _ _ hb'))
   rw [Below.heap_alloc _ _ _ (Array.getElem?_eq_some_iff.1 hb).1, hbb] at h5
   exact (Option.some.inj h5).symm
  cases heq
  exact ⟨es, clock, clock, clock, #[], [], Q90 d13 _ _ hb', Q86 k1 k3 _ _ p1, hne, hm, hp, hc, rfl, rfl, List.nodup_nil, by simp, by simp, by simp⟩
theorem sat_rng {w : World} (hs : sat R (rngo kv vv b r kvs done :: l) w) : ∃ (es : List MapEntry) (clock : Nat) (seen : Array Nat) (is : List Nat), w.heap[b]? = some (.map es.toArray clock) ∧ w.heap[r]? = some (.mapIter (some b) clock seen clock) ∧ b ≠ r ∧
 es.map (fun e => (e.key, e.val)) = kvs.map (fun p => (kv p.1, vv p.2)) ∧ es.Pairwise (fun x y => x.born < y.born) ∧ (∀ e ∈ es, e.born < clock) ∧
 is.Nodup ∧ (∀ i ∈ is, i < kvs.length) ∧ (done.map some = is.map fun i => kvs[i]?) ∧ seen.toList.map some = is.map fun i => es[i]?.map (·.born) := by
 obtain ⟨h1, ⟨es, clock, since, stp, seen, is, a1, a2, a3, a4, a5, a6, rfl, rfl, a7⟩, s⟩ := hs.head
 exact ⟨es, _, seen, is, s _ _ a1, s _ _ a2, a3, a4, a5, a6, a7⟩
theorem At.nextMap {x : Operand} (hg : grd os env g = some true) (hx : ev env x = some (.pointer (some ⟨r, 0, none⟩))) (f : Frt l (rngo kv vv b r kvs done) l') (hd : Nat.blt d n = true)
 (hF : done.Perm kvs → At n ds R ((d, .tuple #[.bool false]) :: env) (rngo kv vv b r kvs done :: l') (wpList P os.toArray Q rest))
 (hT : ∀ (z : κ × ν) tl, (done ++ z :: tl).Perm kvs → At n ds R ((d, .tuple #[.bool true, kv z.1, vv z.2]) :: env) (rngo kv vv b r kvs (done ++ [z]) :: l') (wpList P os.toArray Q rest)) :
 At n ds R env l (wpList P os.toArray Q (⟨some d, .next x false, ty, pos, af, g⟩ :: rest)) := Q79 hg rfl hd fun a w e hs => by
 have hs1 := hs.frt f
 obtain ⟨es, clock, seen, is, hb, hr, hne, hm, hbn, hcl, hn, hl, hdn, hsn⟩ := sat_rng hs1
 have hlen : es.length = kvs.length := Q174 hm
 have hinj : ∀ i j, i < es.length → j < es.length → es[i]?.map (·.born) = es[j]?.map (·.born) → i = j := fun i j hi hj he => by
  rw [List.getElem?_eq_getElem hi, List.getElem?_eq_getElem hj] at he
  simp at he
  have hp := List.pairwise_iff_getElem.1 hbn
  rcases Nat.lt_trichotomy i j with h3 | h3 | h3
  ·have := hp i j hi hj h3; omega
  ·exact h3
  ·have := hp j i hj hi h3; omega
 have hseen : ∀ i, i < es.length → (seen.contains (es[i]?.map (·.born)).get! = true ↔ i ∈ is) := fun i hi => by
  rw [List.getElem?_eq_getElem hi]
  simp only [Option.map_some, Option.get!_some]
  rw [Array.contains_iff_mem, ← Array.mem_toList_iff]
  constructor
  ·intro h
   have : some es[i].born ∈ seen.toList.map some := List.mem_map_of_mem h
   rw [hsn] at this
   obtain ⟨j, hj, hje⟩ := List.mem_map.1 this
   have := hinj j i (by rw [hlen]; exact hl j hj) hi (by rw [hje, List.getElem?_eq_getElem hi]; rfl)
   subst this; exact hj
  ·intro h
   have : es[i]?.map (·.born) ∈ seen.toList.map some := by rw [hsn]; exact List.mem_map_of_mem (f := fun i => es[i]?.map (·.born)) h
   obtain ⟨q, hq, hqe⟩ := List.mem_map.1 this
   rw [List.getElem?_eq_getElem hi] at hqe
   simp at hqe
   rw [← hqe]; exact hq
 rcases run_next_at (P := P) w ty r b clock clock seen es.toArray clock hr hb (fun x hx => hcl x (by simpa using hx)) (Nat.le_refl _) with ⟨h0, hrun⟩ | ⟨e1, he, w1, hal, hrun⟩
 ·refine ⟨.tuple #[.bool false], w, rngo kv vv b r kvs done :: l', ?_, hs1, hF ?_⟩
  ·simp only [execOp, e.ev hx, Sem.run_bind, hrun, Result.andThen, Sem.run_pure]
  ·refine idx_full hn hl (fun i hi => ?_) hdn
   have hi' : i < es.length := by omega
   have := all_seen es.toArray seen h0 es[i] (by simp)
   refine (hseen i hi').1 ?_
   rw [List.getElem?_eq_getElem hi']
   simpa using this
 ·obtain ⟨hem, hes⟩ := mem_left he
  have hem' : e1 ∈ es := by simpa using hem
  obtain ⟨i, hi, hie⟩ := List.getElem_of_mem hem'
  have hi' : i < kvs.length := by omega
  have hnot : i ∉ is := fun h => by
   have := (hseen i hi).2 h
   rw [List.getElem?_eq_getElem hi, hie] at this
   simp at this hes
   exact hes this
  have hkv : (e1.key, e1.val) = (kv kvs[i].1, vv kvs[i].2) := by
   have := congrArg (fun l => l[i]?) hm
   simp only [List.getElem?_map, List.getElem?_eq_getElem hi, List.getElem?_eq_getElem hi', Option.map_some, hie] at this
   exact Option.some.inj this
  obtain ⟨hk1, hk2⟩ := Prod.mk.inj hkv
  have hn' : (is ++ [i]).Nodup := by
   rw [List.nodup_append]
   exact ⟨hn, by simp, fun a ha c hc hac => by simp at hc; subst hc hac; exact hnot ha⟩
  have hl' : ∀ j ∈ is ++ [i], j < kvs.length := fun j hj => by
   rcases List.mem_append.1 hj with h | h
   ·exact hl j h
   ·simp at h; subst h; exact hi'
  have hdn' : (done ++ [kvs[i]]).map some = (is ++ [i]).map fun j => kvs[j]? := by
   rw [List.map_append, List.map_append, hdn]
   simp [hi']
  obtain ⟨tl, htl⟩ := idx_perm hn' hl' hdn'
  refine ⟨.tuple #[.bool true, kv kvs[i].1, vv kvs[i].2], ChangeMaps.setBlock w1 r (.mapIter (some b) clock (seen.push e1.born) clock), rngo kv vv b r kvs (done ++ [kvs[i]]) :: l', ?_, ?_, hT kvs[i] tl (by simpa using htl)⟩
  ·simp only [execOp, e.ev hx, Sem.run_bind, hrun, Result.andThen, Sem.run_pure, hk1, hk2]
  ·have hs2 : sat R (rngo kv vv b r kvs done :: l') w1 := by rcases hal with rfl | rfl <;> first | exact hs1 | exact hs1.drew
   have hb1 : w1.heap[b]? = some (.map es.toArray clock) := by rcases hal with rfl | rfl <;> exact hb
   have hr1 : w1.heap[r]? = some (.mapIter (some b) clock seen clock) := by rcases hal with rfl | rfl <;> exact hr
   obtain ⟨h1, ⟨es2, c2, s2, q2, seen2, is2, a1, a2, _⟩, s, kk⟩ := hs2.upd
   have hset := MapKept.heap_set (o' := .mapIter (some b) clock (seen.push e1.born) clock) hr1
   refine kk _ (fun x => if x = r then some (.mapIter (some b) clock (seen.push e1.born) clock) else h1 x) _ ⟨es, clock, clock, clock, seen.push e1.born, is ++ [i], ?_, if_pos rfl, hne, hm, hbn, hcl, rfl, rfl, hn', hl', hdn', ?_⟩ rfl rfl rfl (Nat.le_refl _) (fun x o hx hnn => ?_) (fun x o hx => ?_) (fun x o hx => ?_)
   ·show (if b = r then _ else h1 b) = _
    rw [if_neg hne]
    have := s _ _ a1
    simp only [wh] at this
    rw [hb1] at this
    rw [a1]; exact this.symm
   ·rw [Array.toList_push, List.map_append, hsn, List.map_append]
    simp [hi, hie]
   ·have hxr : x ≠ r := fun h => by subst h; rw [a2] at hnn; cases hnn
    show (w1.heap.setIfInBounds r _)[x]? = _
    rw [hset.2 x hxr]; exact hx
   ·by_cases hxr : x = r
    ·subst hxr
     have hx : (if x = x then some (Obj.mapIter (some b) clock (seen.push e1.born) clock) else h1 x) = some o := hx
     rw [if_pos rfl] at hx
     cases hx
     exact hset.1
    ·have hx : (if x = r then some (Obj.mapIter (some b) clock (seen.push e1.born) clock) else h1 x) = some o := hx
     rw [if_neg hxr] at hx
     show (w1.heap.setIfInBounds r _)[x]? = _
     rw [hset.2 x hxr]
     exact s x o hx
   ·by_cases hxr : x = r
    ·subst hxr; exact .inl ⟨_, a2⟩
    ·have hx : (if x = r then some (Obj.mapIter (some b) clock (seen.push e1.born) clock) else h1 x) = some o := hx
     rw [if_neg hxr] at hx; exact .inl ⟨o, hx⟩
theorem Y.entry {x : Operand} {z : κ × ν} {dd : Option Nat} (f : Frt l (rngo kv vv b r kvs (done ++ [z])) l') (hx : ev env x = some (.pointer (some ⟨r, 0, none⟩))) : Y P n ds R env l ⟨dd, .entry x, ty, pos, af, g⟩ (.tuple #[kv z.1, vv z.2]) := fun a w e hs => by
 have hs1 := hs.frt f
 obtain ⟨es, clock, seen, is, hb, hr, hne, hm, hbn, hcl, hn, hl, hdn, hsn⟩ := sat_rng hs1
 have hlen : es.length = kvs.length := Q174 hm
 rcases List.eq_nil_or_concat is with rfl | ⟨is0, i, rfl⟩
 ·simp at hdn
 ·rw [List.concat_eq_append] at *
  simp only [List.map_append, List.map_cons, List.map_nil] at hdn hsn
  have hi : i < kvs.length := hl i (by simp)
  have hie : i < es.length := by omega
  have hz : some z = kvs[i]? := by
   have := List.append_inj_right' hdn rfl
   simpa using this
  rw [List.getElem?_eq_getElem hi] at hz
  have hz' := Option.some.inj hz
  have hkv : (es[i].key, es[i].val) = (kv z.1, vv z.2) := by
   have := congrArg (fun l => l[i]?) hm
   simp only [List.getElem?_map, List.getElem?_eq_getElem hie, List.getElem?_eq_getElem hi, Option.map_some] at this
   rw [hz']
   exact Option.some.inj this
  obtain ⟨hk1, hk2⟩ := Prod.mk.inj hkv
  have hsz : seen.toList ≠ [] := fun h => by rw [h] at hsn; simp at hsn
  have hseen : ∃ s0 : Array Nat, seen = s0.push es[i].born := by
   refine ⟨⟨seen.toList.dropLast⟩, ?_⟩
   apply Array.ext'
   rw [Array.toList_push]
   show seen.toList = seen.toList.dropLast ++ [es[i].born]
   have h1 := List.dropLast_concat_getLast hsz
   have h2 : seen.toList.getLast hsz = es[i].born := by
    have h3 : (seen.toList.map some).getLast? = some (some es[i].born) := by rw [hsn]; simp [hie]
    rw [List.getLast?_map, List.getLast?_eq_some_getLast hsz] at h3
    simpa using h3
   rw [← h2]; exact h1.symm
  obtain ⟨s0, hs0⟩ := hseen
  rw [hs0] at hr
  have := run_entry_at (P := P) w r b clock s0 es.toArray clock es[i] hr hb (by simp) (by
   show (es.map (·.born)).Nodup
   exact List.pairwise_map.2 (hbn.imp fun h => Nat.ne_of_lt h))
  simp only [execOp, e.ev hx, this, Sem.run_bind, Result.andThen, Sem.run_pure, hk1, hk2]
theorem At.rngEnd (f : Frt l (rngo kv vv b r kvs done) l') (h : At n ds R env (mapo kv vv b kvs :: l') K) : At n ds R env l K := fun a w e hs => h a w e ((hs.frt f).imp fun h ⟨es, clock, _, _, _, _, a1, _, _, a4, a5, a6, _⟩ => ⟨es, clock, a1, a4, a5, a6⟩)
end
end Go.Bw
namespace Go.Bw
open Go Go.RowKit Go.Proofs
variable {R : Res} {Fr : List HProp} {b0 n0_0 c0_0 n0_3 c0_3 n0_4 c0_4 n0_5 c0_5 n0_6 c0_6 b0_7 : Nat} {A0_0 A0_3 A0_4 A0_5 A0_6 : Option Addr}
noncomputable def Q24.l1b (q : List Q9) (C : List Bs) (u : List Q6) (p : Int) : Option (((List Q6) × Int) ⊕ (((List Q6)) ⊕ ((List Q5) × (List Q6) × (List Bs) × Int))) :=
 if p < (q.length : Int) then
 if (0 : Int) ≤ p ∧ p < (q.length : Int) then
 (Q48.f C ((gt q p).action)).bind fun x =>
 if (u.length + ([(⟨(gt q p).from_, x, (gt q p).to⟩ : Q6)] : List Q6).length) * 24 ≤ 140737488355328 then
 nx ((u ++ ([(⟨(gt q p).from_, x, (gt q p).to⟩ : Q6)] : List Q6)), IntKind.i64.wrap (p + 1))
 else none
 else none
 else
 dn (.inl u)
noncomputable def Q24.l1 (p : List Q9) (q : List Bs) (u : List Q6) (x : Int) : Option (((List Q6)) ⊕ ((List Q5) × (List Q6) × (List Bs) × Int)) := iter (fun t_ : (List Q6) × Int => Q24.l1b p q t_.1 t_.2) (u, x)
noncomputable def Q24.l0b  (p : Bs × Bool) (q : List Bs) : Option ((List Bs)) :=
 if (q.length + ([p.1] : List Bs).length) * 16 ≤ 140737488355328 then
 some (q ++ ([p.1] : List Bs))
 else none
noncomputable def Q24.f (N : List Q0) (O : Option Q3) (q : Int) (u : List Bs) (x : List Q6) (C : List Q5) (D : List Q9) (E : List (Bs × Bool)) : Option ((List Q5) × (List Q6) × (List Bs) × Int) :=
 ordered E (fun (t_ : (List Bs)) (z_ : Bs × Bool) => Q24.l0b  z_ t_) u (fun G => G) (fun (I : List Bs) =>
 (Q74.f I).bind fun p =>
 jn (Q24.l1 D p x 0) (fun (J : List Q6) =>
 (Q32.f J).bind fun L =>
 (Q40.f C).bind fun M =>
 some (M, L, p, q)))
theorem Q24.callee : Callee Tryz.prog 62 := ⟨_, Tryz.func62, by kernel_rfl, by kernel_rfl⟩
theorem Q24.spec {J : List Q0} {a5 : Option Q3} {D : Int} {N : List Bs} {E : List Q6} {x : List Q5} {p : List Q9} {M : List (Bs × Bool)} (G : Option Nat) (hr0_0 : RdS Q0.fl.rep R.heap A0_0 J) (hn0_0 : J.length = n0_0) (hc0_0 : n0_0 ≤ c0_0) (hn0_3 : N.length = n0_3) (hn0_4 : E.length = n0_4) (hn0_5 : x.length = n0_5) (hn0_6 : p.length = n0_6) {r : (List Q5) × (List Q6) × (List Bs) × Int} (j : Q24.f J a5 D N E x p M = some r) :
 Spec Tryz.prog 62 [bp b0] R (pc b0 [.slice A0_0 n0_0 c0_0, optp G, i6 D, .slice A0_3 n0_3 c0_3, .slice A0_4 n0_4 c0_4, .slice A0_5 n0_5 c0_5, .slice A0_6 n0_6 c0_6, .map (some b0_7)] 113 :: optb (Ow.fl Q3.fl) 121 G a5 :: row Fl.bs 9 A0_3 n0_3 c0_3 N :: row Q6.fl 48 A0_4 n0_4 c0_4 E :: grow Q5.ow 41 A0_5 n0_5 c0_5 x :: row Q9.fl 169 A0_6 n0_6 c0_6 p :: mapo Fl.bs.ov Fl.bool.ov b0_7 M :: Fr) (fun v l' => ∃ (b2 : Nat) (c6 : Option Addr) (c7 : Nat) (b3 : Nat) (c8 : Option Addr) (c9 : Nat) (d7 : Value) (d8 : Value), v = .agg #[i6 r.2.2.2, .slice c8 b3 c9, .slice c6 b2 c7, .slice A0_5 n0_5 c0_5] ∧ pc b0 [.slice A0_0 n0_0 c0_0, optp G, i6 D, d7, d8, .slice A0_5 n0_5 c0_5, .slice A0_6 n0_6 c0_6, .map (some b0_7)] 113 :: optb (Ow.fl Q3.fl) 121 G a5 :: row Fl.bs 9 c8 b3 c9 r.2.2.1 :: row Q6.fl 48 c6 b2 c7 r.2.1 :: grow Q5.ow 41 A0_5 n0_5 c0_5 r.1 :: row Q9.fl 169 A0_6 n0_6 c0_6 p :: mapo Fl.bs.ov Fl.bool.ov b0_7 M :: Fr = l' ∧ r.2.1.length = b2 ∧ r.2.2.1.length = b3) := by
 subst hn0_0; subst hn0_3; subst hn0_4; subst hn0_5; subst hn0_6; refine Spec.of Tryz.func62 rfl rfl ?_; unfold Q24.f at j; have j := brun j; refine At.seq (At.region ?_); refine At.alloc rfl rfl rfl (fun O => ?_); refine nT (sR 3 rfl (At.y (Y.load rfl rfl (.s .z) rfl rfl rfl) rfl rfl rfl ?_)); refine At.alloc rfl rfl rfl (fun I => ?_); refine At.store rfl rfl rfl rfl .z rfl rfl rfl (.c (.c (.c (.c .n)))) ?_; refine nT (At.seq (sR 3 rfl (At.y (Y.load rfl rfl (.s (.s .z)) rfl rfl rfl) rfl rfl rfl ?_))); refine At.rangeMap (.s (.s (.s (.s (.s (.s (.s (.s .z)))))))) rfl rfl rfl rfl rfl (fun d0 => ?_); refine nT ?_; refine At.block ?_; obtain ⟨d9, e1, hall1092⟩ := bordered j; clear j; let T1 : HProp := pc O [i6 0, .slice none 0 0, .slice none 0 0, .slice none 0 0] 26; let T2 : HProp := optb (Ow.fl Q3.fl) 121 G a5; let T3 : HProp := row Q6.fl 48 A0_4 E.length c0_4 E; let T4 : HProp := grow Q5.ow 41 A0_5 x.length c0_5 x; let T5 : HProp := row Q9.fl 169 A0_6 p.length c0_6 p; refine At.loopJ (X := (List Bs) × (List (Bs × Bool)) × Nat × (Option Addr) × Nat × Value) (Y := (List Bs) × Nat × (Option Addr) × Nat × Value) (e0 := 0) (fun s_ => [(0, bp b0), (2, bp O), (3, bp I), (15, bp d0)]) (fun s_ => rngo Fl.bs.ov Fl.bool.ov b0_7 d0 M s_.2.1 :: pc I [i6 D, .slice s_.2.2.2.1 s_.2.2.1 s_.2.2.2.2.1, .slice A0_4 E.length c0_4, .slice A0_5 x.length c0_5] 26 :: T1 :: pc b0 [.slice A0_0 J.length c0_0, optp G, i6 D, s_.2.2.2.2.2, .slice A0_4 E.length c0_4, .slice A0_5 x.length c0_5, .slice A0_6 p.length c0_6, .map (some b0_7)] 113 :: T2 :: row Fl.bs 9 s_.2.2.2.1 s_.2.2.1 s_.2.2.2.2.1 s_.1 :: T3 :: T4 :: T5 :: Fr) (fun m_ => fun s_ => (foldO (fun (t_ : (List Bs)) (z_ : Bs × Bool) => Q24.l0b  z_ t_) N s_.2.1 = some s_.1 ∧ m_ + (s_.2.1).length = (M).length) ∧ s_.1.length = s_.2.2.1) (M).length (N, [], N.length, A0_3, c0_3, .slice A0_3 N.length c0_3) ⟨⟨rfl, rfl⟩, rfl⟩ (fun s_ => [(0, bp b0), (2, bp O), (3, bp I)]) (fun s_ => mapo Fl.bs.ov Fl.bool.ov b0_7 M :: pc I [i6 D, .slice s_.2.2.1 s_.2.1 s_.2.2.2.1, .slice A0_4 E.length c0_4, .slice A0_5 x.length c0_5] 26 :: T1 :: pc b0 [.slice A0_0 J.length c0_0, optp G, i6 D, s_.2.2.2.2, .slice A0_4 E.length c0_4, .slice A0_5 x.length c0_5, .slice A0_6 p.length c0_6, .map (some b0_7)] 113 :: T2 :: row Fl.bs 9 s_.2.2.1 s_.2.1 s_.2.2.2.1 s_.1 :: T3 :: T4 :: T5 :: Fr) (fun s_ => d9 s_.1 = some r ∧ s_.1.length = s_.2.1) (fun a w e hs => ⟨e.sub ⟨rfl, rfl, rfl, rfl, trivial⟩, hs⟩) ?_ (fun e2 => ?_)
 ·rintro ⟨U, e3, Z, a0, a1⟩ ⟨j, e4⟩; obtain rfl : U.length = e3 := e4; have j := (e1 _).symm.trans j
  ·refine At.ibx ?_; refine At.thn (sR 1 rfl (At.y (Y.load rfl rfl (.s .z) rfl rfl rfl) rfl rfl rfl (At.f5 ?_))); obtain ⟨b4, e5, j⟩ := bbind j; refine At.call rfl Q74.callee rfl rfl rfl (Q74.spec rfl e5) ?_; rintro _ _ ⟨rfl, rfl⟩; refine nT (At.seq (sR 3 rfl ?_)); refine At.y (Y.load rfl rfl (.s (.s (.s (.s .z)))) rfl rfl rfl) rfl rfl rfl ?_; refine At.run 2 rfl (nT ?_); refine At.block ?_; obtain ⟨e6, e7, m0, j⟩ := bjoin j; obtain ⟨d1, b5, e8⟩ := bsome j; clear j; unfold Q24.l1 at b5; obtain ⟨b6, a2⟩ := Q14.1 b5; clear b5; let T6 : HProp := row Fl.bs 9 Z U.length a0 b4; let T7 : HProp := mapo Fl.bs.ov Fl.bool.ov b0_7 M; refine At.loopJ (X := (List Q6) × Int × Nat × (Option Addr) × Nat × Value) (Y := (List Q6) × Nat × (Option Addr) × Nat × Value) (e0 := 2) (fun s_ => [(2, bp O), (3, bp I), (32, .slice A0_6 p.length c0_6), (33, i6 (p.length : Int)), (34, i6 s_.2.1)]) (fun s_ => T6 :: T7 :: pc I [i6 D, .slice Z U.length a0, .slice s_.2.2.2.1 s_.2.2.1 s_.2.2.2.2.1, .slice A0_5 x.length c0_5] 26 :: T1 :: pc b0 [.slice A0_0 J.length c0_0, optp G, i6 D, a1, s_.2.2.2.2.2, .slice A0_5 x.length c0_5, .slice A0_6 p.length c0_6, .map (some b0_7)] 113 :: T2 :: row Q6.fl 48 s_.2.2.2.1 s_.2.2.1 s_.2.2.2.2.1 s_.1 :: T4 :: T5 :: Fr) (fun m_ => fun s_ => iterN (fun t_ : (List Q6) × Int => Q24.l1b p b4 t_.1 t_.2) m_ (s_.1, s_.2.1) = some d1 ∧ s_.1.length = s_.2.2.1) b6 (E, 0, E.length, A0_4, c0_4, .slice A0_4 E.length c0_4) ⟨a2, rfl⟩ (fun s_ => [(2, bp O), (3, bp I)]) (fun s_ => T6 :: T7 :: pc I [i6 D, .slice Z U.length a0, .slice s_.2.2.1 s_.2.1 s_.2.2.2.1, .slice A0_5 x.length c0_5] 26 :: T1 :: pc b0 [.slice A0_0 J.length c0_0, optp G, i6 D, a1, s_.2.2.2.2, .slice A0_5 x.length c0_5, .slice A0_6 p.length c0_6, .map (some b0_7)] 113 :: T2 :: row Q6.fl 48 s_.2.2.1 s_.2.1 s_.2.2.2.1 s_.1 :: T4 :: T5 :: Fr) (fun s_ => e6 (.inl s_.1) = some r ∧ s_.1.length = s_.2.1) (fun a w e hs => ⟨e.sub ⟨rfl, rfl, rfl, rfl, rfl, trivial⟩, (by exact hs)⟩) ?_ (fun e9 => ?_)
   ·rintro ⟨d2, f0, f1, f9, g0⟩ ⟨j, g1⟩; obtain rfl : d2.length = f0 := g1; have j := (e7 _).symm.trans j
    ·refine At.ibx ?_; refine At.thn (sR 1 rfl (At.y (Y.load rfl rfl (.s (.s .z)) rfl rfl rfl) rfl rfl rfl (At.f6 ?_))); obtain ⟨m1, g2, j⟩ := bbind j; refine At.call rfl Q32.callee rfl rfl rfl (Q32.spec rfl g2) ?_; rintro _ _ ⟨rfl, rfl⟩; refine nT (sR 1 rfl (At.y (Y.load rfl rfl (.s (.s (.s .z))) rfl rfl rfl) rfl rfl rfl (At.f7 ?_))); obtain ⟨m2, g3, j⟩ := bbind j; refine At.call rfl Q40.callee rfl rfl rfl (Q40.spec rfl g3) ?_; rintro _ _ ⟨rfl, rfl⟩; refine nT (At.seq (At.region ?_)); refine At.y (Y.load rfl rfl (.s (.s (.s (.s .z)))) rfl rfl rfl) rfl rfl rfl ?_; refine At.store rfl rfl rfl rfl (.s (.s (.s (.s (.s .z))))) rfl rfl rfl (.c (.c (.c (.c .n)))) ?_; refine nT (At.ret ?_); refine At.rowLen (.s (.s .z)) fun g4 => ?_; refine At.rowLen (.s (.s (.s .z))) fun g5 => ?_; refine At.resM (.inl rfl) rfl (RV.cell rfl rfl .z rfl rfl rfl RV.nil) ?_; refine At.drop .z (At.drop (.s (.s (.s (.s .z)))) (At.f3 (At.f6 (At.f2 (At.f3 (At.f4 (At.f6 ?_))))))); refine At.f6 ?_; cases bret j; exact fun a w e hs => ⟨_, ⟨d2.length, f1, f9, U.length, Z, a0, a1, g0, rfl, rfl, g4, g5⟩, hs⟩
   ·clear a2 b6; rintro b6 ⟨L, u, g6, g7, g8, a6⟩ ⟨a2, g9⟩; obtain rfl : L.length = g6 := g9; obtain ⟨h0, f_, h1, hf_, j⟩ := bit a2; clear a2; have j : (Q24.l1b p b4 L u).bind _ = some d1 := j; unfold Q24.l1b at j
    ·refine sR 1 rfl (nT (At.seq ?_)); rcases bite j with ⟨b7, j⟩ | ⟨b7, j⟩
     ··refine At.condT rfl (decide_eq_true b7) ?_
       refine At.skip (At.thn (At.seq ?_)); refine At.block ?_; refine At.seq (At.region ?_); obtain ⟨a7, j⟩ := bnone j; refine At.y (Y.ix (.s (.s (.s (.s (.s (.s (.s (.s .z)))))))) rfl rfl rfl rfl rfl rfl a7.1 a7.2) rfl rfl rfl ?_; refine At.y (Y.ld (.s (.s (.s (.s (.s (.s (.s (.s .z)))))))) (q := 0) rfl rfl a7.1 a7.2 rfl rfl rfl) rfl rfl rfl ?_; refine At.alloc rfl rfl rfl (fun d3 => ?_); refine At.store rfl rfl rfl rfl .z rfl rfl rfl (.c (.c (.c .n))) ?_; refine nT ?_; refine At.freeze (.s .z) fun m3 b8 b9 c4 m4 h2 => ?_; refine At.held [pc d3 [i6 ((gt p u).from_), .string ⟨((gt p u).action).toArray⟩, i6 ((gt p u).to)] 169, T7, T1, pc b0 [.slice A0_0 J.length c0_0, optp G, i6 D, a1, a6, .slice A0_5 x.length c0_5, .slice A0_6 p.length c0_6, .map (some b0_7)] 113, T2, T4, T5] 16 rfl ?_; refine At.H.pw 0 rfl rfl rfl rfl rfl (.c .z (.c .z (.c (.s .z) (.c (.s .z) (.c (.s .z) (.c (.s (.s .z)) (.c (.s (.s .z)) .n))))))) ?_; refine At.H.pw 2 rfl rfl rfl rfl rfl (.c .z (.c .z (.c (.s .z) (.c (.s .z) (.c (.s .z) (.c (.s (.s .z)) (.c (.s (.s .z)) .n))))))) ?_; refine At.H.tw 3 rfl (Y.load rfl rfl .z rfl rfl rfl) rfl rfl rfl (.c .z (.c .z (.c (.s .z) (.c (.s .z) (.c (.s .z) (.c (.s (.s .z)) (.c (.s (.s .z)) .n))))))) ?_; refine At.H.pw 4 rfl rfl rfl rfl rfl (.c .z (.c .z (.c (.s .z) (.c (.s .z) (.c (.s .z) (.c (.s (.s .z)) (.c (.s (.s .z)) .n))))))) ?_; refine At.H.pw 6 rfl rfl rfl rfl rfl (.c .z (.c .z (.c (.s .z) (.c (.s .z) (.c (.s .z) (.c (.s (.s .z)) (.c (.s (.s .z)) .n))))))) ?_; refine At.H.tw 7 rfl (Y.load rfl rfl .z rfl rfl rfl) rfl rfl rfl (.c .z (.c .z (.c (.s .z) (.c (.s .z) (.c (.s .z) (.c (.s (.s .z)) (.c (.s (.s .z)) .n))))))) ?_; refine At.H.pw 9 rfl rfl rfl rfl rfl (.c .z (.c .z (.c (.s .z) (.c (.s .z) (.c (.s .z) (.c (.s (.s .z)) (.c (.s (.s .z)) .n))))))) ?_; refine At.H.tw 10 rfl (Y.load rfl rfl .z rfl rfl rfl) rfl rfl rfl (.c .z (.c .z (.c (.s .z) (.c (.s .z) (.c (.s .z) (.c (.s (.s .z)) (.c (.s (.s .z)) .n))))))) ?_; obtain ⟨C, c5, j⟩ := bbind j; obtain ⟨a8, j⟩ := bnone j; let T8 : HProp := pc d3 [i6 ((gt p u).from_), .string ⟨((gt p u).action).toArray⟩, i6 ((gt p u).to)] 169; let T9 : HProp := pc b0 [.slice A0_0 J.length c0_0, optp G, i6 D, a1, a6, .slice A0_5 x.length c0_5, .slice A0_6 p.length c0_6, .map (some b0_7)] 113; refine At.H.joinK (X := (Option Addr) × Nat) (fun s_ => [(2, bp O), (3, bp I), (32, .slice A0_6 p.length c0_6), (33, i6 (p.length : Int)), (34, i6 u)]) (fun s_ => pc I [i6 D, .slice Z U.length a0, .slice s_.1 ((L ++ ([(⟨(gt p u).from_, C, (gt p u).to⟩ : Q6)] : List Q6)).length) s_.2, .slice A0_5 x.length c0_5] 26 :: row Q6.fl 48 s_.1 ((L ++ ([(⟨(gt p u).from_, C, (gt p u).to⟩ : Q6)] : List Q6)).length) s_.2 (L ++ ([(⟨(gt p u).from_, C, (gt p u).to⟩ : Q6)] : List Q6)) :: T8 :: T7 :: T1 :: T9 :: T2 :: T4 :: T5 :: Fr) (fun s_ => True) ?_ (fun a9 => ?_)
       ·rintro ⟨h3, h4⟩ -
        ·refine At.ibn ?_; refine At.thn (At.region (At.run 2 rfl (At.nil ?_))); refine At.thaw h2 ?_; refine At.drop (.s (.s (.s .z))) (At.f8 (At.f8 (At.f4 (At.f8 (At.f8 (At.f8 (At.f7 ?_))))))); refine At.f8 (At.f8 ?_); have j := bnx hf_ j; exact fun a w e hs => ⟨h0, ((L ++ ([(⟨(gt p u).from_, C, (gt p u).to⟩ : Q6)] : List Q6)), IntKind.i64.wrap (u + 1), (L ++ ([(⟨(gt p u).from_, C, (gt p u).to⟩ : Q6)] : List Q6)).length, h3, h4, a6), h1, ⟨j, rfl⟩, e.sub ⟨rfl, rfl, rfl, rfl, rfl, trivial⟩, hs⟩
       ·refine At.H.al [1, 5] (Q7 ?_ (Q7 ?_ Q8))
        ··refine At.HO.op rfl ?_
          refine At.y (Y.load rfl rfl (.s (.s .z)) rfl rfl rfl) rfl rfl rfl ?_; refine At.HO.back (.c .z (.c .z (.c (.s .z) (.c (.s .z) (.c (.s .z) (.c (.s (.s .z)) (.c (.s (.s .z)) .n))))))) ?_; refine At.H.al [5] (Q7 ?_ Q8)
          ··refine At.HO.op rfl ?_
            refine At.y (Y.load rfl rfl (.s (.s .z)) rfl rfl rfl) rfl rfl rfl ?_; refine At.HO.back (.c .z (.c .z (.c (.s .z) (.c (.s .z) (.c (.s .z) (.c (.s (.s .z)) (.c (.s (.s .z)) .n))))))) ?_; refine At.H.al [8] (Q7 ?_ Q8)
            ··refine At.HO.op rfl ?_
              refine At.call rfl Q48.callee rfl rfl rfl (Q48.spec b8 b9 c4 c5) ?_; rintro _ _ ⟨rfl, rfl⟩; refine At.HO.back (.c .z (.c .z (.c (.s .z) (.c (.s .z) (.c (.s .z) (.c (.s (.s .z)) (.c (.s (.s .z)) .n))))))) ?_; refine At.H.tw 11 rfl (Y.build (is := [0, 1, 2]) (xo := [.tmp 41, .tmp 46, .tmp 48]) (vs := [i6 ((gt p u).from_), i6 C, i6 ((gt p u).to)]) (cs := [i6 ((gt p u).from_), i6 C, i6 ((gt p u).to)]) rfl rfl rfl rfl rfl rfl) rfl rfl rfl (.c .z (.c .z (.c (.s .z) (.c (.s .z) (.c (.s .z) (.c (.s (.s .z)) (.c (.s (.s .z)) .n))))))) ?_; refine At.H.al [12] (Q7 ?_ Q8)
              ··refine At.HO.op rfl ?_
                refine At.lit rfl (xo := [.tmp 49]) (ys := ([(⟨(gt p u).from_, C, (gt p u).to⟩ : Q6)] : List Q6)) Q6.fl rfl rfl rfl rfl rfl rfl rfl rfl rfl rfl rfl (fun m5 m6 => ?_); refine At.HO.back (.c (.s .z) (.c (.s .z) (.c (.s (.s .z)) (.c (.s (.s .z)) (.c (.s (.s .z)) (.c (.s (.s (.s .z))) (.c (.s (.s (.s .z))) .n))))))) ?_; refine At.H.al [13] (Q7 ?_ Q8)
                ··refine At.HO.op rfl ?_
                  refine At.append rfl (.s (.s (.s (.s (.s (.s (.s .z))))))) (Src.own .z (by simp)) rfl rfl rfl rfl rfl rfl rfl rfl a8 (by decide) rfl (fun h5 h6 => ?_); refine At.drop (.s .z) ?_; refine At.HO.back (.c (.s .z) (.c (.s .z) (.c (.s (.s .z)) (.c (.s (.s .z)) (.c (.s (.s .z)) (.c (.s (.s .z)) (.c (.s (.s .z)) .n))))))) ?_; refine At.H.pw 14 rfl rfl rfl rfl rfl (.c (.s .z) (.c (.s .z) (.c (.s (.s .z)) (.c (.s (.s .z)) (.c (.s (.s .z)) (.c (.s (.s .z)) (.c (.s (.s .z)) .n))))))) ?_; refine At.H.al [15] (Q7 ?_ Q8)
                  ··refine At.HO.op rfl ?_
                    refine At.store rfl rfl rfl rfl (.s (.s (.s .z))) rfl rfl rfl (.s (.s (.c .n))) ?_; refine At.HO.back (.c (.s (.s .z)) (.c (.s (.s .z)) (.c (.s (.s .z)) (.c (.s (.s .z)) (.c (.s (.s .z)) (.c (.s (.s .z)) (.c (.s (.s .z)) .n))))))) ?_; refine At.H.done (by kernel_rfl) ?_; exact At.of (a9 (h5, h6) trivial) ⟨rfl, rfl, rfl, rfl, rfl, trivial⟩
        ··refine At.HO.op rfl ?_
          refine At.y (Y.load rfl rfl (.s (.s .z)) rfl rfl rfl) rfl rfl rfl ?_; refine At.HO.back (.c .z (.c .z (.c (.s .z) (.c (.s .z) (.c (.s .z) (.c (.s (.s .z)) (.c (.s (.s .z)) .n))))))) ?_; refine At.H.al [1, 8] (Q7 ?_ (Q7 ?_ Q8))
          ··refine At.HO.op rfl ?_
            refine At.y (Y.load rfl rfl (.s (.s .z)) rfl rfl rfl) rfl rfl rfl ?_; refine At.HO.back (.c .z (.c .z (.c (.s .z) (.c (.s .z) (.c (.s .z) (.c (.s (.s .z)) (.c (.s (.s .z)) .n))))))) ?_; refine At.H.al [8] (Q7 ?_ Q8)
            ··refine At.HO.op rfl ?_
              refine At.call rfl Q48.callee rfl rfl rfl (Q48.spec b8 b9 c4 c5) ?_; rintro _ _ ⟨rfl, rfl⟩; refine At.HO.back (.c .z (.c .z (.c (.s .z) (.c (.s .z) (.c (.s .z) (.c (.s (.s .z)) (.c (.s (.s .z)) .n))))))) ?_; refine At.H.tw 11 rfl (Y.build (is := [0, 1, 2]) (xo := [.tmp 41, .tmp 46, .tmp 48]) (vs := [i6 ((gt p u).from_), i6 C, i6 ((gt p u).to)]) (cs := [i6 ((gt p u).from_), i6 C, i6 ((gt p u).to)]) rfl rfl rfl rfl rfl rfl) rfl rfl rfl (.c .z (.c .z (.c (.s .z) (.c (.s .z) (.c (.s .z) (.c (.s (.s .z)) (.c (.s (.s .z)) .n))))))) ?_; refine At.H.al [12] (Q7 ?_ Q8)
              ··refine At.HO.op rfl ?_
                refine At.lit rfl (xo := [.tmp 49]) (ys := ([(⟨(gt p u).from_, C, (gt p u).to⟩ : Q6)] : List Q6)) Q6.fl rfl rfl rfl rfl rfl rfl rfl rfl rfl rfl rfl (fun m7 m8 => ?_); refine At.HO.back (.c (.s .z) (.c (.s .z) (.c (.s (.s .z)) (.c (.s (.s .z)) (.c (.s (.s .z)) (.c (.s (.s (.s .z))) (.c (.s (.s (.s .z))) .n))))))) ?_; refine At.H.al [13] (Q7 ?_ Q8)
                ··refine At.HO.op rfl ?_
                  refine At.append rfl (.s (.s (.s (.s (.s (.s (.s .z))))))) (Src.own .z (by simp)) rfl rfl rfl rfl rfl rfl rfl rfl a8 (by decide) rfl (fun h7 h8 => ?_); refine At.drop (.s .z) ?_; refine At.HO.back (.c (.s .z) (.c (.s .z) (.c (.s (.s .z)) (.c (.s (.s .z)) (.c (.s (.s .z)) (.c (.s (.s .z)) (.c (.s (.s .z)) .n))))))) ?_; refine At.H.pw 14 rfl rfl rfl rfl rfl (.c (.s .z) (.c (.s .z) (.c (.s (.s .z)) (.c (.s (.s .z)) (.c (.s (.s .z)) (.c (.s (.s .z)) (.c (.s (.s .z)) .n))))))) ?_; refine At.H.al [15] (Q7 ?_ Q8)
                  ··refine At.HO.op rfl ?_
                    refine At.store rfl rfl rfl rfl (.s (.s (.s .z))) rfl rfl rfl (.s (.s (.c .n))) ?_; refine At.HO.back (.c (.s (.s .z)) (.c (.s (.s .z)) (.c (.s (.s .z)) (.c (.s (.s .z)) (.c (.s (.s .z)) (.c (.s (.s .z)) (.c (.s (.s .z)) .n))))))) ?_; refine At.H.done (by kernel_rfl) ?_; exact At.of (a9 (h7, h8) trivial) ⟨rfl, rfl, rfl, rfl, rfl, trivial⟩
          ··refine At.HO.op rfl ?_
            refine At.call rfl Q48.callee rfl rfl rfl (Q48.spec b8 b9 c4 c5) ?_; rintro _ _ ⟨rfl, rfl⟩; refine At.HO.back (.c .z (.c .z (.c (.s .z) (.c (.s .z) (.c (.s .z) (.c (.s (.s .z)) (.c (.s (.s .z)) .n))))))) ?_; refine At.H.tw 11 rfl (Y.build (is := [0, 1, 2]) (xo := [.tmp 41, .tmp 46, .tmp 48]) (vs := [i6 ((gt p u).from_), i6 C, i6 ((gt p u).to)]) (cs := [i6 ((gt p u).from_), i6 C, i6 ((gt p u).to)]) rfl rfl rfl rfl rfl rfl) rfl rfl rfl (.c .z (.c .z (.c (.s .z) (.c (.s .z) (.c (.s .z) (.c (.s (.s .z)) (.c (.s (.s .z)) .n))))))) ?_; refine At.H.al [1, 12] (Q7 ?_ (Q7 ?_ Q8))
            ··refine At.HO.op rfl ?_
              refine At.y (Y.load rfl rfl (.s (.s .z)) rfl rfl rfl) rfl rfl rfl ?_; refine At.HO.back (.c .z (.c .z (.c (.s .z) (.c (.s .z) (.c (.s .z) (.c (.s (.s .z)) (.c (.s (.s .z)) .n))))))) ?_; refine At.H.al [12] (Q7 ?_ Q8)
              ··refine At.HO.op rfl ?_
                refine At.lit rfl (xo := [.tmp 49]) (ys := ([(⟨(gt p u).from_, C, (gt p u).to⟩ : Q6)] : List Q6)) Q6.fl rfl rfl rfl rfl rfl rfl rfl rfl rfl rfl rfl (fun m9 n2 => ?_); refine At.HO.back (.c (.s .z) (.c (.s .z) (.c (.s (.s .z)) (.c (.s (.s .z)) (.c (.s (.s .z)) (.c (.s (.s (.s .z))) (.c (.s (.s (.s .z))) .n))))))) ?_; refine At.H.al [13] (Q7 ?_ Q8)
                ··refine At.HO.op rfl ?_
                  refine At.append rfl (.s (.s (.s (.s (.s (.s (.s .z))))))) (Src.own .z (by simp)) rfl rfl rfl rfl rfl rfl rfl rfl a8 (by decide) rfl (fun h9 k0 => ?_); refine At.drop (.s .z) ?_; refine At.HO.back (.c (.s .z) (.c (.s .z) (.c (.s (.s .z)) (.c (.s (.s .z)) (.c (.s (.s .z)) (.c (.s (.s .z)) (.c (.s (.s .z)) .n))))))) ?_; refine At.H.pw 14 rfl rfl rfl rfl rfl (.c (.s .z) (.c (.s .z) (.c (.s (.s .z)) (.c (.s (.s .z)) (.c (.s (.s .z)) (.c (.s (.s .z)) (.c (.s (.s .z)) .n))))))) ?_; refine At.H.al [15] (Q7 ?_ Q8)
                  ··refine At.HO.op rfl ?_
                    refine At.store rfl rfl rfl rfl (.s (.s (.s .z))) rfl rfl rfl (.s (.s (.c .n))) ?_; refine At.HO.back (.c (.s (.s .z)) (.c (.s (.s .z)) (.c (.s (.s .z)) (.c (.s (.s .z)) (.c (.s (.s .z)) (.c (.s (.s .z)) (.c (.s (.s .z)) .n))))))) ?_; refine At.H.done (by kernel_rfl) ?_; exact At.of (a9 (h9, k0) trivial) ⟨rfl, rfl, rfl, rfl, rfl, trivial⟩
            ··refine At.HO.op rfl ?_
              refine At.lit rfl (xo := [.tmp 49]) (ys := ([(⟨(gt p u).from_, C, (gt p u).to⟩ : Q6)] : List Q6)) Q6.fl rfl rfl rfl rfl rfl rfl rfl rfl rfl rfl rfl (fun n4 n5 => ?_); refine At.HO.back (.c (.s .z) (.c (.s .z) (.c (.s (.s .z)) (.c (.s (.s .z)) (.c (.s (.s .z)) (.c (.s (.s (.s .z))) (.c (.s (.s (.s .z))) .n))))))) ?_; refine At.H.al [1] (Q7 ?_ Q8)
              ··refine At.HO.op rfl ?_
                refine At.y (Y.load rfl rfl (.s (.s (.s .z))) rfl rfl rfl) rfl rfl rfl ?_; refine At.HO.back (.c (.s .z) (.c (.s .z) (.c (.s (.s .z)) (.c (.s (.s .z)) (.c (.s (.s .z)) (.c (.s (.s (.s .z))) (.c (.s (.s (.s .z))) .n))))))) ?_; refine At.H.al [13] (Q7 ?_ Q8)
                ··refine At.HO.op rfl ?_
                  refine At.append rfl (.s (.s (.s (.s (.s (.s (.s .z))))))) (Src.own .z (by simp)) rfl rfl rfl rfl rfl rfl rfl rfl a8 (by decide) rfl (fun k1 k2 => ?_); refine At.drop (.s .z) ?_; refine At.HO.back (.c (.s .z) (.c (.s .z) (.c (.s (.s .z)) (.c (.s (.s .z)) (.c (.s (.s .z)) (.c (.s (.s .z)) (.c (.s (.s .z)) .n))))))) ?_; refine At.H.pw 14 rfl rfl rfl rfl rfl (.c (.s .z) (.c (.s .z) (.c (.s (.s .z)) (.c (.s (.s .z)) (.c (.s (.s .z)) (.c (.s (.s .z)) (.c (.s (.s .z)) .n))))))) ?_; refine At.H.al [15] (Q7 ?_ Q8)
                  ··refine At.HO.op rfl ?_
                    refine At.store rfl rfl rfl rfl (.s (.s (.s .z))) rfl rfl rfl (.s (.s (.c .n))) ?_; refine At.HO.back (.c (.s (.s .z)) (.c (.s (.s .z)) (.c (.s (.s .z)) (.c (.s (.s .z)) (.c (.s (.s .z)) (.c (.s (.s .z)) (.c (.s (.s .z)) .n))))))) ?_; refine At.H.done (by kernel_rfl) ?_; exact At.of (a9 (k1, k2) trivial) ⟨rfl, rfl, rfl, rfl, rfl, trivial⟩
     ··refine At.condF rfl (decide_eq_false b7) ?_
       refine At.exit ?_; refine At.the ?_; refine At.the ?_; exact fun a w e hs => e9 (L, L.length, g7, g8, a6) ⟨(bdn j e8), rfl⟩ a w (e.sub ⟨rfl, rfl, trivial⟩) hs
 ·rintro n6 ⟨V, k3, k4, k5, k6, d4⟩ ⟨⟨d5, d6⟩, k7⟩; obtain rfl : V.length = k4 := k7
  ·refine At.seq (At.region ?_); refine At.nextMap rfl rfl .z rfl (fun a3 => ?_) (fun a4 k8 a3 => ?_)
   ·have j := foldO_end hall1092 d5 a3; refine At.run 1 rfl (nT (At.seq ?_)); refine At.condF rfl rfl ?_; refine At.exit ?_; refine At.the ?_; refine At.the ?_; refine At.rngEnd .z ?_; exact fun a w e hs => e2 (V, V.length, k5, k6, d4) ⟨j, rfl⟩ a w (e.sub ⟨rfl, rfl, rfl, trivial⟩) hs
   ·obtain ⟨k9, l5, l6⟩ := foldO_go hall1092 d5 a3; have j := brun (show Q24.l0b  a4 V = some k9 from l5); unfold Q24.l0b at j; refine At.run 1 rfl (nT (At.seq ?_)); refine At.condT rfl rfl ?_; refine At.skip (At.thn ?_); refine At.block ?_; refine At.seq (At.region ?_); refine At.y (Y.entry .z rfl) rfl rfl rfl ?_; refine At.run 2 rfl (nT (At.region (At.run 1 rfl (At.y (Y.load rfl rfl (.s .z) rfl rfl rfl) rfl rfl rfl (At.run 1 rfl ?_))))); refine At.lit rfl (xo := [.tmp 22]) (ys := ([a4.1] : List Bs)) Fl.bs rfl rfl rfl rfl rfl rfl rfl rfl rfl rfl rfl (fun n7 n8 => ?_); obtain ⟨l7, j⟩ := bnone j; refine At.append rfl (.s (.s (.s (.s (.s (.s .z)))))) (Src.own .z (by simp)) rfl rfl rfl rfl rfl rfl rfl rfl l7 (by decide) rfl (fun l8 l9 => ?_); refine At.drop (.s .z) (At.run 1 rfl ?_); refine At.store rfl rfl rfl rfl (.s (.s .z)) rfl rfl rfl (.s (.c .n)) ?_; refine At.nil ?_; refine At.ibn ?_; refine At.f8 (At.f8 (At.f8 (At.f4 (At.f8 (At.f8 (At.f8 (At.f7 ?_))))))); refine At.f8 ?_; obtain rfl := bret j; exact fun a w e hs => ⟨k8.length, ((V ++ ([a4.1] : List Bs)), (k3 ++ [a4]), (V ++ ([a4.1] : List Bs)).length, l8, l9, d4), (rng_lt a3 d6).1, ⟨⟨l6, (rng_lt a3 d6).2⟩, rfl⟩, e.sub ⟨rfl, rfl, rfl, rfl, trivial⟩, hs⟩

noncomputable def Q18.l0b (C : (Option Q3) × (List Q0) × Int) (D : Option Q3) (q : List Q5) (u : List Q9) (x : List (Bs × Bool)) (J : List Q0) : Option (((Option Q3) × (List Q5) × (List Q9) × (List (Bs × Bool)) × (List Q0)) ⊕ (((Option Q3) × (List Q5) × (List Q9) × (List (Bs × Bool)) × (List Q0)) ⊕ ((Option Q3) × (List Bs) × (List Q6) × (List Q5) × Int))) :=
 if D.isNone = true then
 (Q46.f J D C.2.2 ([] : List Bs) ([] : List Q6) q u x).bind fun E =>
 if (0 : Int) ≤ 0 ∧ 0 < (E.length : Int) then
 if (gt E 0).Kind = 0 then
 dn (.inl (D, q, u, x, E))
 else
 (Q43.f E D C.2.2 ([] : List Bs) ([] : List Q6) q u x 2).bind fun p =>
 if p.1.isNone = true then
 if bseq p.2.2.2.2.1 ([101, 100, 103, 101] : Bs) = true then
 (Q117.f p.2.1 p.1 C.2.2 ([] : List Bs) ([] : List Q6) q u x p.2.2.1 p.2.2.2.1 p.2.2.2.2.1 p.2.2.2.2.2).bind fun G =>
 nx (G.2.2.1, q, G.1, G.2.1, G.2.2.2)
 else
 if bseq p.2.2.2.2.1 ([109, 97, 114, 107] : Bs) = true then
 (Q36.f p.2.1 p.1 C.2.2 ([] : List Bs) ([] : List Q6) q u x).bind fun I =>
 nx (I.2.1, I.1, u, x, I.2.2)
 else
 (Q15.f p.2.1 p.1 C.2.2 ([] : List Bs) ([] : List Q6) q u x p.2.2.1 p.2.2.2.1 p.2.2.2.2.1 p.2.2.2.2.2 7).bind fun L =>
 nx (L, q, u, x, p.2.1)
 else
 nx (p.1, q, u, x, p.2.1)
 else none
 else
 dn (.inl (D, q, u, x, J))
noncomputable def Q18.l0 (p : (Option Q3) × (List Q0) × Int) (q : Option Q3) (u : List Q5) (x : List Q9) (C : List (Bs × Bool)) (D : List Q0) : Option (((Option Q3) × (List Q5) × (List Q9) × (List (Bs × Bool)) × (List Q0)) ⊕ ((Option Q3) × (List Bs) × (List Q6) × (List Q5) × Int)) := iter (fun t_ : (Option Q3) × (List Q5) × (List Q9) × (List (Bs × Bool)) × (List Q0) => Q18.l0b p t_.1 t_.2.1 t_.2.2.1 t_.2.2.2.1 t_.2.2.2.2) (q, u, x, C, D)
noncomputable def Q18.f (a0 : Bs) : Option ((Option Q3) × (List Bs) × (List Q6) × (List Q5) × Int) :=
 (Q45.f a0).bind fun u =>
 if u.1.isNone = true then
 (Q121.f u.2 (none : Option Q3) 0 ([] : List Bs) ([] : List Q6) ([] : List Q5) ([] : List Q9) ([] : List (Bs × Bool))).bind fun p =>
 jn (Q18.l0 p p.1 ([] : List Q5) ([] : List Q9) ([] : List (Bs × Bool)) p.2.1) (fun (s_ : (Option Q3) × (List Q5) × (List Q9) × (List (Bs × Bool)) × (List Q0)) =>
 if s_.1.isNone = true then
 (Q24.f s_.2.2.2.2 s_.1 p.2.2 ([] : List Bs) ([] : List Q6) s_.2.1 s_.2.2.1 s_.2.2.2.1).bind fun q =>
 some (none, q.2.2.1, q.2.1, q.1, q.2.2.2)
 else
 some ((some (⟨(s_.1.getD default).At, (s_.1.getD default).Err⟩ : Q3)), ([] : List Bs), ([] : List Q6), ([] : List Q5), 0))
 else
 some (u.1, ([] : List Bs), ([] : List Q6), ([] : List Q5), 0)
theorem Q18.callee : Callee Tryz.prog 30 := ⟨_, Tryz.func30, by kernel_rfl, by kernel_rfl⟩
theorem Q18.spec {a0 : Bs} {r : (Option Q3) × (List Bs) × (List Q6) × (List Q5) × Int} (j : Q18.f a0 = some r) :
 Spec Tryz.prog 30 [.string ⟨(a0).toArray⟩] R (Fr) (fun v l' => ∃ (e4 : Option Nat) (b6 : Nat) (e5 : Option Addr) (e6 : Nat) (b7 : Nat) (e7 : Option Addr) (e8 : Nat) (b8 : Nat) (e9 : Option Addr) (f0 : Nat), v = .tuple #[.agg #[i6 r.2.2.2.2, .slice e5 b6 e6, .slice e7 b7 e8, .slice e9 b8 f0], opti 110 e4] ∧ row Fl.bs 9 e5 b6 e6 r.2.1 :: row Q6.fl 48 e7 b7 e8 r.2.2.1 :: grow Q5.ow 41 e9 b8 f0 r.2.2.2.1 :: optb (Ow.fl Q3.fl) 121 e4 r.1 :: Fr = l' ∧ r.2.1.length = b6 ∧ r.2.2.1.length = b7 ∧ r.2.2.2.1.length = b8) := by
 refine Spec.of Tryz.func30 rfl rfl ?_; unfold Q18.f at j; have j := brun j; refine At.seq (At.region ?_); refine At.alloc rfl rfl rfl (fun b9 => ?_); refine At.run 1 rfl (nT (sR 1 rfl ?_)); obtain ⟨a6, h5, j⟩ := bbind j; refine At.call rfl Q45.callee rfl rfl rfl (Q45.spec h5) ?_; rintro _ _ ⟨f9, r2, c4, c5, rfl, rfl, rfl⟩; refine At.run 5 rfl (nT (At.seq (sR 1 rfl ?_))); refine At.y (Y.neOptI (.s .z) rfl rfl rfl) rfl rfl rfl ?_; refine nT ?_; rcases bite j with ⟨c6, j⟩ | ⟨c6, j⟩
 ··refine At.condF rfl (nf c6) ?_
   refine At.skip (At.thn (sR 1 rfl ?_)); refine At.makeMap Fl.bs.ov Fl.bool.ov rfl rfl (fun C => ?_); refine At.y (Y.build (is := [0, 4]) (xo := [.tmp 17, .tmp 18]) (vs := [.slice c4 a6.2.length c5, .map (some C)]) (cs := [.slice c4 a6.2.length c5, .pointer none, i6 0, .slice none 0 0, .slice none 0 0, .slice none 0 0, .slice none 0 0, .map (some C)]) rfl rfl rfl rfl rfl rfl) rfl rfl rfl ?_; refine At.box rfl rfl (cs := [.slice c4 a6.2.length c5, .pointer none, i6 0, .slice none 0 0, .slice none 0 0, .slice none 0 0, .slice none 0 0, .map (some C)]) rfl rfl (fun L => ?_); refine At.run 1 rfl (nT (sR 1 rfl ?_)); refine At.optNone (Ow.fl Q3.fl) 121 ?_; refine At.nilRow Fl.bs 9 ?_; refine At.nilRow Q6.fl 48 ?_; refine At.nilGrow Q5.ow 41 ?_; refine At.nilRow Q9.fl 169 ?_; refine At.freeze (.s (.s (.s (.s (.s (.s (.s .z))))))) fun g0 h6 h7 h8 r3 g1 => ?_; refine At.f6 (At.f1 (At.f2 (At.f3 (At.f4 (At.f5 (At.f6 ?_)))))); obtain ⟨D, h9, j⟩ := bbind j; refine At.call rfl Q121.callee rfl rfl rfl (Q121.spec none h6 h7 h8 rfl rfl rfl rfl h9) ?_; rintro _ _ ⟨k0, k1, r4, k2, rfl, rfl, k3, rfl, k4⟩; refine nT (At.seq ?_); refine At.block ?_; obtain ⟨k5, k6, r5, j⟩ := bjoin j; obtain ⟨g2, c7, g3⟩ := bsome j; clear j; unfold Q18.l0 at c7; obtain ⟨c8, M⟩ := Q14.1 c7; clear c7; let c9 : HProp := row Fl.bs 9 none 0 0 ([] : List Bs); let d0 : HProp := row Q6.fl 48 none 0 0 ([] : List Q6); let d1 : HProp := optb (Ow.fl Q3.fl) 121 f9 a6.1; let d2 : HProp := pc b9 [i6 0, .slice none 0 0, .slice none 0 0, .slice none 0 0] 26; refine At.loopJ (X := (Option Q3) × (List Q5) × (List Q9) × (List (Bs × Bool)) × (List Q0) × (Option Nat) × Nat × (Option Addr) × Nat × Nat × (Option Addr) × Nat × (Option Addr) × Nat × Nat) (Y := (Option Q3) × (List Q5) × (List Q9) × (List (Bs × Bool)) × (List Q0) × (Option Nat) × Nat × (Option Addr) × Nat × Nat × (Option Addr) × Nat × (Option Addr) × Nat × Nat) (e0 := 0) (fun s_ => [(2, bp b9), (6, bp L)]) (fun s_ => optb (Ow.fl Q3.fl) 121 s_.2.2.2.2.2.1 s_.1 :: pc L [.slice (d8 s_).2.2.2.2.1 (d8 s_).2.2.2.2.2.1 (d8 s_).2.2.2.2.2.2, optp s_.2.2.2.2.2.1, i6 D.2.2, .slice none 0 0, .slice none 0 0, .slice s_.2.2.2.2.2.2.2.1 s_.2.2.2.2.2.2.1 (d8 s_).1, .slice (d8 s_).2.2.1 (d8 s_).2.1 (d8 s_).2.2.2.1, .map (some C)] 113 :: c9 :: d0 :: grow Q5.ow 41 s_.2.2.2.2.2.2.2.1 s_.2.2.2.2.2.2.1 (d8 s_).1 s_.2.1 :: row Q9.fl 169 (d8 s_).2.2.1 (d8 s_).2.1 (d8 s_).2.2.2.1 s_.2.2.1 :: mapo Fl.bs.ov Fl.bool.ov C s_.2.2.2.1 :: d1 :: d2 :: Fr) (fun m_ => fun s_ => iterN (fun t_ : (Option Q3) × (List Q5) × (List Q9) × (List (Bs × Bool)) × (List Q0) => Q18.l0b D t_.1 t_.2.1 t_.2.2.1 t_.2.2.2.1 t_.2.2.2.2) m_ (s_.1, s_.2.1, s_.2.2.1, s_.2.2.2.1, s_.2.2.2.2.1) = some g2 ∧ s_.2.1.length = s_.2.2.2.2.2.2.1 ∧ s_.2.2.1.length = (d8 s_).2.1 ∧ RdS Q0.fl.rep g0.heap (d8 s_).2.2.2.2.1 s_.2.2.2.2.1 ∧ s_.2.2.2.2.1.length = (d8 s_).2.2.2.2.2.1 ∧ (d8 s_).2.2.2.2.2.1 ≤ (d8 s_).2.2.2.2.2.2) c8 (D.1, ([] : List Q5), ([] : List Q9), ([] : List (Bs × Bool)), D.2.1, k0, 0, none, 0, 0, none, 0, k1, D.2.1.length, k2) ⟨M, rfl, rfl, k3, rfl, k4⟩ (fun s_ => [(2, bp b9), (6, bp L)]) (fun s_ => pc L [.slice (d8 s_).2.2.2.2.1 (d8 s_).2.2.2.2.2.1 (d8 s_).2.2.2.2.2.2, optp s_.2.2.2.2.2.1, i6 D.2.2, .slice none 0 0, .slice none 0 0, .slice s_.2.2.2.2.2.2.2.1 s_.2.2.2.2.2.2.1 (d8 s_).1, .slice (d8 s_).2.2.1 (d8 s_).2.1 (d8 s_).2.2.2.1, .map (some C)] 113 :: optb (Ow.fl Q3.fl) 121 s_.2.2.2.2.2.1 s_.1 :: c9 :: d0 :: grow Q5.ow 41 s_.2.2.2.2.2.2.2.1 s_.2.2.2.2.2.2.1 (d8 s_).1 s_.2.1 :: row Q9.fl 169 (d8 s_).2.2.1 (d8 s_).2.1 (d8 s_).2.2.2.1 s_.2.2.1 :: mapo Fl.bs.ov Fl.bool.ov C s_.2.2.2.1 :: d1 :: d2 :: Fr) (fun s_ => k5 (.inl (s_.1, s_.2.1, s_.2.2.1, s_.2.2.2.1, s_.2.2.2.2.1)) = some r ∧ s_.2.1.length = s_.2.2.2.2.2.2.1 ∧ s_.2.2.1.length = (d8 s_).2.1 ∧ RdS Q0.fl.rep g0.heap (d8 s_).2.2.2.2.1 s_.2.2.2.2.1 ∧ s_.2.2.2.2.1.length = (d8 s_).2.2.2.2.2.1 ∧ (d8 s_).2.2.2.2.2.1 ≤ (d8 s_).2.2.2.2.2.2) (fun a w e hs => ⟨e.sub ⟨rfl, rfl, trivial⟩, (by exact hs)⟩) ?_ (fun g4 => ?_)
   ·rintro ⟨E, N, a7, k7, g5, k8, k9, d3, d4, l5, g6, g7, l6, l7, l8⟩ ⟨j, l9, m0, m1, m2, m3⟩; obtain rfl : N.length = k9 := l9; obtain rfl : a7.length = l5 := m0; obtain rfl : g5.length = l7 := m2; have j := (k6 _).symm.trans j
    ·refine At.ibx ?_; refine At.thn (At.seq (sR 3 rfl (At.y (Y.load rfl rfl .z rfl rfl rfl) rfl rfl rfl ?_))); refine At.y (Y.neOpt (.s .z) rfl rfl rfl rfl) rfl rfl rfl ?_; refine nT ?_; rcases bite j with ⟨a8, j⟩ | ⟨a8, j⟩
     ··refine At.condF rfl (nf a8) ?_
       refine At.skip (At.thn (sR 1 rfl ?_)); obtain ⟨g8, m4, j⟩ := bbind j; refine At.call rfl Q24.callee rfl rfl rfl (Q24.spec k8 m1 rfl m3 rfl rfl rfl rfl m4) ?_; rintro _ _ ⟨r6, m5, m6, r7, m7, m8, r8, r9, rfl, rfl, rfl, rfl⟩; refine At.store rfl rfl rfl rfl (.s (.s (.s (.s (.s (.s (.s (.s .z)))))))) rfl rfl rfl (.c (.c (.c (.c .n)))) ?_; refine At.run 1 rfl (nT (At.ret ?_)); refine At.thaw g1 ?_; refine At.optNone (Ow.fl Q3.fl) 121 ?_; refine At.growLen (.s (.s (.s (.s (.s (.s (.s .z))))))) fun m9 _ => ?_; refine At.resM (.inl rfl) rfl (RV.cell rfl rfl (.s (.s .z)) rfl rfl rfl (RV.tmp rfl RV.nil)) ?_; refine At.drop (.s .z) (At.drop (.s .z) (At.drop (.s .z) (At.drop (.s .z) (At.drop (.s (.s (.s (.s .z)))) (At.drop (.s (.s (.s (.s .z)))) (At.drop (.s (.s (.s (.s .z)))) (At.f3 ?_))))))); refine At.f3 (At.f3 ?_); cases bret j; exact fun a w e hs => ⟨_, ⟨none, g8.2.2.1.length, m7, m8, g8.2.1.length, m5, m6, N.length, d3, d4, rfl, rfl, rfl, rfl, m9⟩, hs⟩
     ··refine At.condT rfl (nt (bn a8)) ?_
       refine At.seq ?_; refine At.optOpen (.s .z) (bn a8) (fun d5 n2 s0 => ?_); have n4 := j; subst n2; have j := n4; refine At.ownFl (.s .z) ?_; rintro rfl; refine At.held [pc d5 [i6 ((E.getD default).At), i6 ((E.getD default).Err)] 121, pc L [.slice l6 g5.length l8, bp d5, i6 D.2.2, .slice none 0 0, .slice none 0 0, .slice d3 N.length d4, .slice g6 a7.length g7, .map (some C)] 113, c9, d0, grow Q5.ow 41 d3 N.length d4 N, row Q9.fl 169 g6 a7.length g7 a7, mapo Fl.bs.ov Fl.bool.ov C k7, d1, d2] 8 rfl ?_; refine At.H.tw 0 rfl (Y.build (is := []) (xo := []) (vs := []) (cs := [i6 0, .slice none 0 0, .slice none 0 0, .slice none 0 0]) rfl rfl rfl rfl rfl rfl) rfl rfl rfl (.c .z (.c .z (.c .z (.c .z (.c .z (.c .z (.c .z (.c .z (.c .z .n))))))))) ?_; refine At.H.pw 1 rfl rfl rfl rfl rfl (.c .z (.c .z (.c .z (.c .z (.c .z (.c .z (.c .z (.c .z (.c .z .n))))))))) ?_; refine At.H.pw 2 rfl rfl rfl rfl rfl (.c .z (.c .z (.c .z (.c .z (.c .z (.c .z (.c .z (.c .z (.c .z .n))))))))) ?_; refine At.H.pw 3 rfl rfl rfl rfl rfl (.c .z (.c .z (.c .z (.c .z (.c .z (.c .z (.c .z (.c .z (.c .z .n))))))))) ?_; refine At.H.tw 4 rfl (Y.load rfl rfl (.s .z) rfl rfl rfl) rfl rfl rfl (.c .z (.c .z (.c .z (.c .z (.c .z (.c .z (.c .z (.c .z (.c .z .n))))))))) ?_; refine At.H.pw 5 rfl rfl rfl rfl rfl (.c .z (.c .z (.c .z (.c .z (.c .z (.c .z (.c .z (.c .z (.c .z .n))))))))) ?_; refine At.H.al [6] (Q7 ?_ Q8)
       ··refine At.HO.op rfl ?_
         refine At.store rfl rfl rfl rfl (.s (.s (.s (.s (.s (.s (.s (.s .z)))))))) rfl rfl rfl (.c (.c (.c (.c .n)))) ?_; refine At.HO.back (.c (.s .z) (.c (.s .z) (.c (.s .z) (.c (.s .z) (.c (.s .z) (.c (.s .z) (.c (.s .z) (.c (.s .z) (.c .z .n))))))))) ?_; refine At.H.pw 7 rfl rfl rfl rfl rfl (.c (.s .z) (.c (.s .z) (.c (.s .z) (.c (.s .z) (.c (.s .z) (.c (.s .z) (.c (.s .z) (.c (.s .z) (.c .z .n))))))))) ?_; refine At.H.done (by kernel_rfl) ?_; refine At.thn (At.ret (At.thr ?_)); refine At.thaw g1 ?_; refine At.f2 ?_; refine At.optSome (x := (⟨(E.getD default).At, (E.getD default).Err⟩ : Q3)) (Ent.fl Q3.fl (x := (⟨(E.getD default).At, (E.getD default).Err⟩ : Q3)) rfl) ?_; refine At.nilRow Fl.bs 9 ?_; refine At.nilRow Q6.fl 48 ?_; refine At.nilGrow Q5.ow 41 ?_; refine At.resM (.inl rfl) rfl (RV.cell rfl rfl (.s (.s (.s (.s (.s .z))))) rfl rfl rfl (RV.tmp rfl RV.nil)) ?_; refine At.drop (.s (.s (.s (.s .z)))) (At.drop (.s (.s (.s (.s .z)))) (At.drop (.s (.s (.s (.s .z)))) (At.drop (.s (.s (.s (.s .z)))) (At.drop (.s (.s (.s (.s .z)))) (At.drop (.s (.s (.s (.s .z)))) (At.drop (.s (.s (.s (.s .z)))) (At.drop (.s (.s (.s (.s .z)))) ?_))))))); refine At.drop (.s (.s (.s (.s .z)))) (At.f3 (At.f1 (At.f2 (At.f3 ?_)))); cases bret j; exact fun a w e hs => ⟨_, ⟨(some d5), 0, none, 0, 0, none, 0, 0, none, 0, rfl, rfl, rfl, rfl, rfl⟩, hs⟩
   ·clear M c8; rintro c8 ⟨d6, p, u, G, a9, b2, n5, O, U, n6, V, Z, n7, n8, n9⟩ ⟨M, o0, o7, g9, o8, h0⟩; obtain rfl : p.length = n5 := o0; obtain rfl : u.length = n6 := o7; obtain rfl : a9.length = n8 := o8; obtain ⟨b3, f_, b4, hf_, j⟩ := bit M; clear M; have j : (Q18.l0b D d6 p u G a9).bind _ = some g2 := j; unfold Q18.l0b at j
    ·refine At.seq (sR 3 rfl (At.y (Y.load rfl rfl (.s .z) rfl rfl rfl) rfl rfl rfl ?_)); refine At.y (Y.eqOpt .z rfl rfl rfl rfl) rfl rfl rfl ?_; refine nT ?_; rcases bite j with ⟨d7, j⟩ | ⟨d7, j⟩
     ··refine At.condT rfl d7 ?_
       refine At.skip (At.thn ?_); refine At.block ?_; refine sR 1 rfl (At.f6 (At.f6 (At.f6 (At.f6 (At.f6 ?_))))); refine At.f5 (At.f6 ?_); obtain ⟨h1, o9, j⟩ := bbind j; refine At.call rfl Q46.callee rfl rfl rfl (Q46.spec b2 g9 rfl h0 rfl rfl rfl rfl o9) ?_; rintro _ _ ⟨p0, s1, p1, rfl, rfl, a1, rfl, h2⟩; refine nT (At.seq (sR 3 rfl (At.y (Y.load rfl rfl .z rfl rfl rfl) rfl rfl rfl ?_))); obtain ⟨I, j⟩ := bnone j; refine At.y (Y.ixRd a1 rfl rfl rfl rfl rfl rfl rfl I.1 I.2) rfl rfl rfl ?_; refine At.y (Y.fa (RdS.some_ a1 rfl I.1 I.2) rfl rfl rfl rfl rfl rfl) rfl rfl rfl ?_; refine At.y (Y.ldFl a1 rfl (q := 0) rfl rfl I.1 I.2 rfl rfl rfl) rfl rfl rfl (At.run 1 rfl (nT ?_)); rcases bite j with ⟨d9, j⟩ | ⟨d9, j⟩
       ··refine At.condT rfl (decide_eq_true d9) ?_
         refine At.exit ?_; refine At.the ?_; refine At.ibo rfl ?_; refine At.the ?_; exact fun a w e hs => g4 (d6, p, u, G, h1, b2, p.length, O, U, u.length, V, Z, p0, h1.length, p1) ⟨(bdn j g3), rfl, rfl, a1, rfl, h2⟩ a w (e.sub ⟨rfl, rfl, trivial⟩) hs
       ··refine At.condF rfl (decide_eq_false d9) ?_
         refine At.skip (At.thn (sR 1 rfl ?_)); obtain ⟨a2, p2, j⟩ := bbind j; refine At.call rfl Q43.callee rfl rfl rfl (Q43.spec b2 a1 rfl h2 rfl rfl rfl rfl p2) ?_; rintro _ _ ⟨b5, h3, s2, h4, rfl, rfl, a3, rfl, a4⟩; refine At.alloc rfl rfl rfl (fun s3 => ?_); refine At.store rfl rfl rfl rfl .z rfl rfl rfl (.c (.c (.c (.c .n)))) ?_; refine nT ?_; refine At.block ?_; refine sR 3 rfl (At.y (Y.load rfl rfl (.s (.s .z)) rfl rfl rfl) rfl rfl rfl ?_); refine At.y (Y.neOpt (.s .z) rfl rfl rfl rfl) rfl rfl rfl ?_; refine At.run 1 rfl (nT ?_); rcases bite j with ⟨e1, j⟩ | ⟨e1, j⟩
         ··refine At.condF rfl (nf e1) ?_
           refine sR 1 rfl (At.y (Y.load rfl rfl .z rfl rfl rfl) rfl rfl rfl (At.run 2 rfl (nT ?_))); rcases bite j with ⟨e2, j⟩ | ⟨e2, j⟩
           ··refine At.condT rfl e2 ?_
             refine At.region (At.run 1 rfl (At.y (Y.load rfl rfl .z rfl rfl rfl) rfl rfl rfl (At.f7 (At.f7 (At.f7 (At.f7 (At.f7 ?_))))))); refine At.f6 (At.f7 ?_); obtain ⟨J, p3, j⟩ := bbind j; refine At.call rfl Q117.callee rfl rfl rfl (Q117.spec b5 a3 rfl a4 rfl rfl rfl rfl p3) ?_; rintro _ _ ⟨s4, p4, p5, p6, p7, s5, p8, rfl, rfl, rfl, p9, rfl, q0⟩; refine At.nil ?_; refine At.ibn ?_; refine At.ibn ?_; refine At.drop (.s (.s (.s (.s (.s (.s (.s .z))))))) ?_; have j := bnx hf_ j; exact fun a w e hs => ⟨b3, (J.2.2.1, p, J.1, J.2.1, J.2.2.2, p6, p.length, O, U, J.1.length, p4, p5, p7, J.2.2.2.length, p8), b4, ⟨j, rfl, rfl, p9, rfl, q0⟩, e.sub ⟨rfl, rfl, trivial⟩, hs⟩
           ··refine At.condF rfl (bn e2) ?_
             refine sR 1 rfl (At.y (Y.load rfl rfl .z rfl rfl rfl) rfl rfl rfl (At.run 2 rfl (nT ?_))); rcases bite j with ⟨e3, j⟩ | ⟨e3, j⟩
             ··refine At.condT rfl e3 ?_
               refine At.region (At.run 1 rfl (At.f7 (At.f7 (At.f7 (At.f7 (At.f7 (At.f6 ?_))))))); refine At.f7 ?_; obtain ⟨a5, q1, j⟩ := bbind j; refine At.call rfl Q36.callee rfl rfl rfl (Q36.spec b5 a3 rfl a4 rfl rfl rfl rfl q1) ?_; rintro _ _ ⟨s6, q2, q3, q4, q5, s7, q6, rfl, rfl, rfl, q7, rfl, q8⟩; refine At.nil ?_; refine At.ibn ?_; refine At.ibn ?_; refine At.drop (.s (.s (.s (.s (.s (.s (.s .z))))))) ?_; have j := bnx hf_ j; exact fun a w e hs => ⟨b3, (a5.2.1, a5.1, u, G, a5.2.2, q4, a5.1.length, q2, q3, u.length, V, Z, q5, a5.2.2.length, q6), b4, ⟨j, rfl, rfl, q7, rfl, q8⟩, e.sub ⟨rfl, rfl, trivial⟩, hs⟩
             ··refine At.condF rfl (bn e3) ?_
               refine At.region (At.run 1 rfl (At.y (Y.load rfl rfl .z rfl rfl rfl) rfl rfl rfl (At.f7 (At.f7 (At.f7 (At.f7 (At.f7 ?_))))))); refine At.f6 (At.f7 ?_); obtain ⟨q9, r0, j⟩ := bbind j; refine At.call rfl Q15.callee rfl rfl rfl (Q15.spec b5 a3 rfl a4 rfl rfl rfl rfl r0) ?_; rintro _ _ ⟨r1, rfl, rfl⟩; refine At.nil ?_; refine At.ibn ?_; refine At.ibn ?_; refine At.drop (.s (.s (.s (.s (.s (.s (.s .z))))))) ?_; have j := bnx hf_ j; exact fun a w e hs => ⟨b3, (q9, p, u, G, a2.2.1, r1, p.length, O, U, u.length, V, Z, h3, a2.2.1.length, h4), b4, ⟨j, rfl, rfl, a3, rfl, a4⟩, e.sub ⟨rfl, rfl, trivial⟩, hs⟩
         ··refine At.condT rfl (nt (bn e1)) ?_
           refine At.skip ?_; refine At.ibn ?_; refine At.ibn ?_; refine At.drop .z ?_; have j := bnx hf_ j; exact fun a w e hs => ⟨b3, (a2.1, p, u, G, a2.2.1, b5, p.length, O, U, u.length, V, Z, h3, a2.2.1.length, h4), b4, ⟨j, rfl, rfl, a3, rfl, a4⟩, e.sub ⟨rfl, rfl, trivial⟩, hs⟩
     ··refine At.condF rfl (bn d7) ?_
       refine At.exit ?_; refine At.the ?_; refine At.the ?_; refine At.f8 (At.f8 (At.f8 (At.f8 (At.f8 (At.f8 (At.f8 (At.f7 ?_))))))); refine At.f8 ?_; exact fun a w e hs => g4 (d6, p, u, G, a9, b2, p.length, O, U, u.length, V, Z, n7, a9.length, n9) ⟨(bdn j g3), rfl, rfl, g9, rfl, h0⟩ a w (e.sub ⟨rfl, rfl, trivial⟩) hs
 ··refine At.condT rfl (nt (bn c6)) ?_
   refine At.seq (At.region ?_); refine At.y (Y.build (is := []) (xo := []) (vs := []) (cs := [i6 0, .slice none 0 0, .slice none 0 0, .slice none 0 0]) rfl rfl rfl rfl rfl rfl) rfl rfl rfl ?_; refine At.run 1 rfl ?_; refine At.store rfl rfl rfl rfl (.s (.s .z)) rfl rfl rfl (.c (.c (.c (.c .n)))) ?_; refine At.run 1 rfl (nT (At.ret (At.thr ?_))); refine At.nilRow Fl.bs 9 ?_; refine At.nilRow Q6.fl 48 ?_; refine At.nilGrow Q5.ow 41 ?_; refine At.resM (.inl rfl) rfl (RV.cell rfl rfl (.s (.s (.s .z))) rfl rfl rfl (RV.tmp rfl RV.nil)) ?_; refine At.drop (.s (.s (.s .z))) (At.drop (.s (.s (.s .z))) (At.f3 (At.f1 (At.f2 (At.f3 ?_))))); cases bret j; exact fun a w e hs => ⟨_, ⟨f9, 0, none, 0, 0, none, 0, 0, none, 0, rfl, rfl, rfl, rfl, rfl⟩, hs⟩

end Go.Bw
namespace Go.Bw
open Go Go.RowKit Go.Proofs




/- told with Q273.f -/



end Go.Bw
namespace Go.Bw
open Go Go.RowKit Go.Proofs
variable {R : Res} {Fr : List HProp} {b0 b0_1 b0_2 : Nat}
noncomputable def Q131.f (q : Int) (u : List (Bs × Q4)) (p : List (Q10 × Q4)) (a1 : Int) (a2 : Bs) : Option (Int × Int × Int × Int) :=
 some (((mget p (⟨a1, a2⟩ : Q10)).getD (⟨(0 : Int), (0 : Int), (0 : Int), (0 : Int)⟩ : Q4)).c0, ((mget p (⟨a1, a2⟩ : Q10)).getD (⟨(0 : Int), (0 : Int), (0 : Int), (0 : Int)⟩ : Q4)).c1, ((mget p (⟨a1, a2⟩ : Q10)).getD (⟨(0 : Int), (0 : Int), (0 : Int), (0 : Int)⟩ : Q4)).c2, ((mget p (⟨a1, a2⟩ : Q10)).getD (⟨(0 : Int), (0 : Int), (0 : Int), (0 : Int)⟩ : Q4)).c3)
theorem Q131.callee : Callee Tryz.prog 17 := ⟨_, Tryz.func17, by kernel_rfl, by kernel_rfl⟩
theorem Q131.spec {p a1 : Int} {q : List (Bs × Q4)} {u : List (Q10 × Q4)} {a2 : Bs} {r : Int × Int × Int × Int} (j : Q131.f p q u a1 a2 = some r) :
 Spec Tryz.prog 17 [bp b0, i6 a1, .string ⟨(a2).toArray⟩] R (pc b0 [i6 p, .map (some b0_1), .map (some b0_2)] 82 :: mapo Fl.bs.ov Q4.fl.av b0_1 q :: mapo Q10.fl.av Q4.fl.av b0_2 u :: Fr) (fun v l' => v = .agg #[.int .u64 r.1, .int .u64 r.2.1, .int .u64 r.2.2.1, .int .u64 r.2.2.2] ∧ pc b0 [i6 p, .map (some b0_1), .map (some b0_2)] 82 :: mapo Fl.bs.ov Q4.fl.av b0_1 q :: mapo Q10.fl.av Q4.fl.av b0_2 u :: Fr = l') := by
 refine Spec.of Tryz.func17 rfl rfl ?_; unfold Q131.f at j; have j := brun j; refine At.seq (At.region ?_); refine At.alloc rfl rfl rfl (fun x => ?_); refine nT (sR 3 rfl (At.y (Y.load rfl rfl (.s .z) rfl rfl rfl) rfl rfl rfl (At.run 2 rfl ?_))); refine At.y (Y.build (is := [0, 1]) (xo := [.tmp 11, .tmp 12]) (vs := [i6 a1, .string ⟨(a2).toArray⟩]) (cs := [i6 a1, .string ⟨(a2).toArray⟩]) rfl rfl rfl rfl rfl rfl) rfl rfl rfl ?_; refine At.y (Y.lookup (k := (⟨a1, a2⟩ : Q10)) (z := (⟨(0 : Int), (0 : Int), (0 : Int), (0 : Int)⟩ : Q4)) (.s (.s (.s .z))) rfl rfl Q10.keyok (by kernel_rfl) rfl rfl rfl) rfl rfl rfl ?_; refine At.store rfl rfl rfl rfl .z rfl rfl rfl (.c (.c (.c (.c .n)))) ?_; refine nT (At.ret ?_); refine At.resM (.inl rfl) rfl (RV.cell rfl rfl .z rfl rfl rfl RV.nil) ?_; refine At.drop .z ?_; cases bret j; exact fun a w e hs => ⟨_, ⟨rfl, rfl⟩, hs⟩


end Go.Bw
namespace Go.Bw
open Go Go.RowKit Go.Proofs
variable {R : Res} {Fr : List HProp} {A0 A0_1 A0_2 A0_3 A0_5 A0_6 A0_7 A0_8 A3 : Option Addr} {n0 c0 b0 b0_0 b0_0_1 b0_0_2 n0_1 c0_1 n0_2 c0_2 n0_3 c0_3 b0_4 n0_5 c0_5 n0_6 c0_6 n0_7 c0_7 n0_8 c0_8 n3 c3 b1 : Nat}
structure Q2 where
 State : Int
 Node : Int
deriving Inhabited, DecidableEq
def Q2.fl : Fl Q2 := ⟨2, fun x => [i6 x.State, i6 x.Node], fun _ => rfl, fun x u hu => by simp at hu; rcases hu with rfl | rfl <;> rfl, by decide⟩
theorem Q2.keyok : KeyOk Tryz.prog 65 Q2.fl.av := KeyOk.st rfl rfl (by kernel_rfl) (by kernel_rfl) (fun x y => by
 refine (show _ = some (decide (x.State = y.State) && (decide (x.Node = y.Node) && true)) from rfl).trans (congrArg some ?_)
 cases x
 cases y
 rw [Bool.eq_iff_iff]
 simp [Q158]) (fun x => by simp [Q2.fl, Instr.sameBits, Q221])

noncomputable def Q146.f (p q u : Int) (x : Bs) (C : Int) : Option Bool :=
 some (decide (p = 5))
theorem Q146.callee : Callee Tryz.prog 101 := ⟨_, Tryz.func101, by kernel_rfl, by kernel_rfl⟩
theorem Q146.spec {p q u x : Int} {C : Bs} {r : Bool} (j : Q146.f p q u C x = some r) :
 Spec Tryz.prog 101 [.agg #[i6 p, i6 q, i6 u, .string ⟨(C).toArray⟩, i6 x]] R (Fr) (fun v l' => v = .bool r ∧ Fr = l') := by
 refine Spec.of Tryz.func101 rfl rfl ?_; unfold Q146.f at j; have j := brun j; refine At.seq (At.region ?_); refine At.box rfl rfl (cs := [i6 p, i6 q, i6 u, .string ⟨(C).toArray⟩, i6 x]) rfl rfl (fun D => ?_); refine At.run 1 rfl (nT (sR 1 rfl (At.y (Y.load rfl rfl .z rfl rfl rfl) rfl rfl rfl (At.run 2 rfl ?_)))); refine nT (At.ret (At.drop .z ?_)); cases bret j; exact At.res (.inl rfl) rfl rfl ⟨rfl, rfl⟩

noncomputable def Q67.l0b (a0 : List Q1) (p : Int) : Option ((Int) ⊕ ((Unit) ⊕ (Int))) :=
 if p < (a0.length : Int) then
 if (0 : Int) ≤ p ∧ p < (a0.length : Int) then
 (Q146.f ((gt a0 p).Kind) ((gt a0 p).A) ((gt a0 p).B) ((gt a0 p).Name) ((gt a0 p).At)).bind fun q =>
 if q = true then
 upL (some p)
 else
 nx (IntKind.i64.wrap (p + 1))
 else none
 else
 dn (.inl ())
noncomputable def Q67.l0 (a0 : List Q1) (p : Int) : Option ((Unit) ⊕ (Int)) := iter (fun t_ : Int => Q67.l0b a0 t_) p
noncomputable def Q67.f (a0 : List Q1) : Option Int :=
 jn (Q67.l0 a0 0) (fun (_ : Unit) =>
 some (-1))
theorem Q67.callee : Callee Tryz.prog 141 := ⟨_, Tryz.func141, by kernel_rfl, by kernel_rfl⟩
theorem Q67.spec {a0 : List Q1} (hr0 : RdS Q1.fl.rep R.heap A0 a0) (hn0 : a0.length = n0) (hc0 : n0 ≤ c0) {r : Int} (j : Q67.f a0 = some r) :
 Spec Tryz.prog 141 [.slice A0 n0 c0, .func (.func 101) #[] #[]] R (Fr) (fun v l' => v = i6 r ∧ Fr = l') := by
 subst hn0; refine Spec.of Tryz.func141 rfl rfl ?_; unfold Q67.f at j; have j := brun j; refine sR 1 rfl (nT (At.seq (At.seq (At.region ?_)))); refine At.run 3 rfl (nT ?_); refine At.block ?_; obtain ⟨L, M, N, j⟩ := bjoin j; obtain ⟨I, C, J⟩ := bsome j; clear j; unfold Q67.l0 at C; obtain ⟨D, u⟩ := Q14.1 C; clear C; refine At.loopJ (X := Int) (Y := Unit) (e0 := 0) (fun p => [(0, .slice A0 a0.length c0), (1, .func (.func 101) #[] #[]), (7, i6 (a0.length : Int)), (8, i6 p)]) (fun p => Fr) (fun m_ => fun p => iterN (fun t_ : Int => Q67.l0b a0 t_) m_ p = some I) D 0 u (fun _ => []) (fun _ => Fr) (fun _ => L (.inl ()) = some r) (fun a w e hs => ⟨e.sub ⟨rfl, rfl, rfl, rfl, trivial⟩, (by exact hs)⟩) ?_ (fun O => ?_)
 ·rintro _ j; have j := (M _).symm.trans j
  ·refine At.ibx ?_; refine At.thn (sR 1 rfl (nT (At.ret ?_))); cases bret j; exact At.res (.inl rfl) rfl rfl ⟨rfl, rfl⟩
 ·clear u D; rintro D p u; obtain ⟨U, f_, V, hf_, j⟩ := bit u; clear u; have j : (Q67.l0b a0 p).bind _ = some I := j; unfold Q67.l0b at j
  ·refine sR 1 rfl (nT (At.seq ?_)); rcases bite j with ⟨E, j⟩ | ⟨E, j⟩
   ··refine At.condT rfl (decide_eq_true E) ?_
     refine At.skip (At.thn (At.seq ?_)); refine At.block ?_; refine sR 2 rfl (nT (sR 3 rfl ?_)); obtain ⟨x, j⟩ := bnone j; refine At.y (Y.ixRd hr0 rfl rfl rfl rfl rfl rfl rfl x.1 x.2) rfl rfl rfl (At.y (Y.ldFl hr0 rfl (q := 0) rfl rfl x.1 x.2 rfl rfl rfl) rfl rfl rfl ?_); obtain ⟨a1, Z, j⟩ := bbind j; refine At.call rfl Q146.callee rfl rfl rfl (Q146.spec Z) ?_; rintro _ _ ⟨rfl, rfl⟩; refine nT ?_; rcases bite j with ⟨G, j⟩ | ⟨G, j⟩
     ··refine At.condT rfl G ?_
       refine sR 2 rfl (nT (At.ret ?_)); refine At.ibr ?_; refine At.thr ?_; have j := bupL N J j; refine At.thr ?_; refine At.ibr ?_; refine At.thr ?_; cases bret j; exact At.res (.inl rfl) rfl rfl ⟨rfl, rfl⟩
     ··refine At.condF rfl (bn G) ?_
       refine At.skip ?_; refine At.ibn ?_; refine At.thn (At.region (At.run 2 rfl (At.nil ?_))); have j := bnx hf_ j; exact fun a w e hs => ⟨U, (IntKind.i64.wrap (p + 1)), V, j, e.sub ⟨rfl, rfl, rfl, rfl, trivial⟩, hs⟩
   ··refine At.condF rfl (decide_eq_false E) ?_
     refine At.exit ?_; refine At.the ?_; refine At.the ?_; exact fun a w e hs => O () (bdn j J) a w (e.sub trivial) hs

noncomputable def Q148.f (a0 : List Q1) : Option Bool :=
 (Q67.f a0).bind fun p =>
 some (decide (0 ≤ p))
theorem Q148.callee : Callee Tryz.prog 100 := ⟨_, Tryz.func100, by kernel_rfl, by kernel_rfl⟩
theorem Q148.spec {a0 : List Q1} (hr0 : RdS Q1.fl.rep R.heap A0 a0) (hn0 : a0.length = n0) (hc0 : n0 ≤ c0) {r : Bool} (j : Q148.f a0 = some r) :
 Spec Tryz.prog 100 [.slice A0 n0 c0, .func (.func 101) #[] #[]] R (Fr) (fun v l' => v = .bool r ∧ Fr = l') := by
 subst hn0; refine Spec.of Tryz.func100 rfl rfl ?_; unfold Q148.f at j; have j := brun j; refine sR 1 rfl (nT (sR 2 rfl ?_)); obtain ⟨q, p, j⟩ := bbind j; refine At.call rfl Q67.callee rfl rfl rfl (Q67.spec hr0 rfl hc0 p) ?_; rintro _ _ ⟨rfl, rfl⟩; refine At.run 2 rfl (nT (At.ret ?_)); cases bret j; exact At.res (.inl rfl) rfl rfl ⟨rfl, rfl⟩

noncomputable def Q63.l0b (u q : List Q1) (p : Int) : Option (((List Q1) × Int) ⊕ (((List Q1)) ⊕ (Bool))) :=
 if p < (u.length : Int) then
 jn (
 if (0 : Int) ≤ p ∧ p < (u.length : Int) then
 if (gt q p).Kind = 12 then
 some (.inl (st q p ({ gt q p with Kind := 3 })))
 else
 some (.inl q)
 else none) (fun (x : List Q1) =>
 nx (x, IntKind.i64.wrap (p + 1)))
 else
 dn (.inl q)
noncomputable def Q63.l0 (p q : List Q1) (u : Int) : Option (((List Q1)) ⊕ (Bool)) := iter (fun t_ : (List Q1) × Int => Q63.l0b p t_.1 t_.2) (q, u)
noncomputable def Q63.f (a0 : List Q1) : Option Bool :=
 (Q113.f a0).bind fun p =>
 jn (Q63.l0 p p 0) (fun (q : List Q1) =>
 (Q68.f q).bind fun u =>
 some (decide (u.1 = 0)))
theorem Q63.callee : Callee Tryz.prog 102 := ⟨_, Tryz.func102, by kernel_rfl, by kernel_rfl⟩
theorem Q63.spec {a0 : List Q1} (hr0 : RdS Q1.fl.rep R.heap A0 a0) (hn0 : a0.length = n0) (hc0 : n0 ≤ c0) {r : Bool} (j : Q63.f a0 = some r) :
 Spec Tryz.prog 102 [.slice A0 n0 c0] R (Fr) (fun v l' => v = .bool r ∧ Fr = l') := by
 subst hn0; refine Spec.of Tryz.func102 rfl rfl ?_; unfold Q63.f at j; have j := brun j; refine sR 1 rfl (nT (sR 1 rfl ?_)); obtain ⟨u, Z, j⟩ := bbind j; refine At.call rfl Q113.callee rfl rfl rfl (Q113.spec hr0 rfl hc0 Z) ?_; rintro _ _ ⟨x, C, rfl, rfl⟩; refine At.run 1 rfl (nT (At.seq (sR 3 rfl (At.nil ?_)))); refine At.thn ?_; refine At.block ?_; obtain ⟨a1, a2, b6, j⟩ := bjoin j; obtain ⟨L, M, a3⟩ := bsome j; clear j; unfold Q63.l0 at M; obtain ⟨N, I⟩ := Q14.1 M; clear M; refine At.loopJ (X := (List Q1) × Int) (Y := (List Q1)) (e0 := 0) (fun s_ => [(3, .slice x u.length C), (10, i6 (u.length : Int)), (11, i6 s_.2)]) (fun s_ => row Q1.fl 33 x u.length C s_.1 :: Fr) (fun m_ => fun s_ => iterN (fun t_ : (List Q1) × Int => Q63.l0b u t_.1 t_.2) m_ (s_.1, s_.2) = some L) N (u, 0) I (fun J => [(3, .slice x u.length C)]) (fun J => row Q1.fl 33 x u.length C J :: Fr) (fun J => a1 (.inl J) = some r) (fun a w e hs => ⟨e.sub ⟨rfl, rfl, rfl, trivial⟩, (by exact hs)⟩) ?_ (fun a4 => ?_)
 ·rintro J j; have j := (a2 _).symm.trans j
  ·refine At.ibx ?_; refine At.thn (sR 1 rfl ?_); refine At.freeze .z fun b7 a5 a6 a7 b8 a8 => ?_; obtain ⟨b9, a9, j⟩ := bbind j; refine At.call rfl Q68.callee rfl rfl rfl (Q68.spec a5 a6 a7 a9) ?_; rintro _ _ ⟨rfl, rfl⟩; refine At.run 5 rfl (nT (sR 3 rfl (nT ?_))); refine At.ret ?_; refine At.thaw a8 ?_; refine At.drop .z ?_; cases bret j; exact At.res (.inl rfl) rfl rfl ⟨rfl, rfl⟩
 ·clear I N; rintro N ⟨D, E⟩ I; obtain ⟨b2, f_, b3, hf_, j⟩ := bit I; clear I; have j : (Q63.l0b u D E).bind _ = some L := j; unfold Q63.l0b at j
  ·refine sR 1 rfl (nT (At.seq ?_)); rcases bite j with ⟨O, j⟩ | ⟨O, j⟩
   ··refine At.condT rfl (decide_eq_true O) ?_
     refine At.skip (At.thn (At.seq ?_)); obtain ⟨b4, b5, c4, j⟩ := bjoin j; refine At.join (X := (List Q1)) (fun G => [(3, .slice x u.length C), (10, i6 (u.length : Int)), (11, i6 E)]) (fun G => row Q1.fl 33 x u.length C G :: Fr) (fun G => b4 (.inl G) = some L) ?_ (fun V => ?_)
     ·rintro G j; have j := (b5 _).symm.trans j
      ·refine At.region (At.run 2 rfl (At.nil ?_)); have j := bnx hf_ j; exact fun a w e hs => ⟨b2, (G, IntKind.i64.wrap (E + 1)), b3, j, e.sub ⟨rfl, rfl, rfl, trivial⟩, hs⟩
     ··refine At.block ?_
       refine sR 2 rfl (nT (sR 2 rfl ?_)); obtain ⟨p, j⟩ := bnone j; refine At.y (Y.ix .z rfl rfl rfl rfl rfl rfl p.1 p.2) rfl rfl rfl ?_; refine At.y (Y.faOwn .z p.1 p.2 rfl rfl rfl rfl rfl rfl) rfl rfl rfl ?_; refine At.y (Y.ld .z (q := 0) rfl rfl p.1 p.2 rfl rfl rfl) rfl rfl rfl (At.run 1 rfl (nT ?_)); rcases bite j with ⟨U, j⟩ | ⟨U, j⟩
       ··refine At.condT rfl (decide_eq_true U) ?_
         refine At.region (At.run 2 rfl (At.y (Y.ix .z rfl rfl rfl rfl rfl rfl p.1 p.2) rfl rfl rfl ?_)); refine At.y (Y.faOwn .z p.1 p.2 rfl rfl rfl rfl rfl rfl) rfl rfl rfl ?_; refine At.st rfl .z (q := 0) (z := { gt D E with Kind := 3 }) rfl rfl rfl p.1 p.2 rfl rfl (.c .n) ?_; refine At.nil ?_; refine At.ibn ?_; refine At.thn ?_; exact fun a w e hs => V (st D E ({ gt D E with Kind := 3 })) j a w (e.sub ⟨rfl, rfl, rfl, trivial⟩) hs
       ··refine At.condF rfl (decide_eq_false U) ?_
         refine At.skip ?_; refine At.ibn ?_; refine At.thn ?_; exact fun a w e hs => V D j a w (e.sub ⟨rfl, rfl, rfl, trivial⟩) hs
   ··refine At.condF rfl (decide_eq_false O) ?_
     refine At.exit ?_; refine At.the ?_; refine At.the ?_; exact fun a w e hs => a4 D (bdn j a3) a w (e.sub ⟨rfl, trivial⟩) hs

noncomputable def Q102.f (a0 : List Q1) : Option Bool :=
 (Q148.f a0).bind fun p =>
 jn (
 if p = true then
 some (.inl false)
 else
 (Q63.f a0).bind fun q =>
 some (.inl q)) (fun (u : Bool) =>
 some u)
theorem Q102.callee : Callee Tryz.prog 46 := ⟨_, Tryz.func46, by kernel_rfl, by kernel_rfl⟩
theorem Q102.spec {a0 : List Q1} (hr0 : RdS Q1.fl.rep R.heap A0 a0) (hn0 : a0.length = n0) (hc0 : n0 ≤ c0) {r : Bool} (j : Q102.f a0 = some r) :
 Spec Tryz.prog 46 [.slice A0 n0 c0] R (Fr) (fun v l' => v = .bool r ∧ Fr = l') := by
 subst hn0; refine Spec.of Tryz.func46 rfl rfl ?_; unfold Q102.f at j; have j := brun j; refine sR 1 rfl (nT (sR 1 rfl ?_)); obtain ⟨I, x, j⟩ := bbind j; refine At.call rfl Q148.callee rfl rfl rfl (Q148.spec hr0 rfl hc0 x) ?_; rintro _ _ ⟨rfl, rfl⟩; refine At.run 2 rfl ?_; obtain ⟨C, D, J, j⟩ := bjoin j; refine At.joinO 3 (X := Bool) (fun p => [(9, .bool p)]) (fun p => Fr) (fun p => C (.inl p) = some r) ?_ (fun u => ?_)
 ·rintro p j; have j := (D _).symm.trans j
  ·refine At.run 1 rfl (nT (At.ret ?_)); cases bret j; exact At.res (.inl rfl) rfl rfl ⟨rfl, rfl⟩
 ··rcases bite j with ⟨q, j⟩ | ⟨q, j⟩
   ··refine At.know (t := 6) rfl (nf q) ?_
     refine At.run 3 rfl ?_; exact At.of (u false j) ⟨rfl, trivial⟩
   ··refine At.know (t := 6) rfl (nt (bn q)) ?_
     refine At.run 1 rfl ?_; obtain ⟨E, G, j⟩ := bbind j; refine At.call rfl Q63.callee rfl rfl rfl (Q63.spec hr0 rfl hc0 G) ?_; rintro _ _ ⟨rfl, rfl⟩; refine At.run 1 rfl ?_; exact At.of (u E j) ⟨rfl, trivial⟩

noncomputable def Q83.l0b (u q : List Q1) (p : Int) : Option (((List Q1) × Int) ⊕ (((List Q1)) ⊕ ((List Int)))) :=
 if p < (u.length : Int) then
 jn (
 if (0 : Int) ≤ p ∧ p < (u.length : Int) then
 if (gt q p).Kind = 12 then
 some (.inl (st q p ({ gt q p with Kind := 3 })))
 else
 some (.inl q)
 else none) (fun (x : List Q1) =>
 nx (x, IntKind.i64.wrap (p + 1)))
 else
 dn (.inl q)
noncomputable def Q83.l0 (p q : List Q1) (u : Int) : Option (((List Q1)) ⊕ ((List Int))) := iter (fun t_ : (List Q1) × Int => Q83.l0b p t_.1 t_.2) (q, u)
noncomputable def Q83.f (a0 : List Q1) : Option (List Int) :=
 (Q113.f a0).bind fun p =>
 jn (Q83.l0 p p 0) (fun (q : List Q1) =>
 (Q133.f q).bind fun u =>
 some u)
theorem Q83.callee : Callee Tryz.prog 52 := ⟨_, Tryz.func52, by kernel_rfl, by kernel_rfl⟩
theorem Q83.spec {a0 : List Q1} (hr0 : RdS Q1.fl.rep R.heap A0 a0) (hn0 : a0.length = n0) (hc0 : n0 ≤ c0) {r : (List Int)} (j : Q83.f a0 = some r) :
 Spec Tryz.prog 52 [.slice A0 n0 c0] R (Fr) (fun v l' => ∃ (L : Nat) (Z : Option Addr) (a1 : Nat), v = .slice Z L a1 ∧ row (Fl.int .i64) 3 Z L a1 r :: Fr = l' ∧ r.length = L) := by
 subst hn0; refine Spec.of Tryz.func52 rfl rfl ?_; unfold Q83.f at j; have j := brun j; refine sR 1 rfl (nT (sR 1 rfl ?_)); obtain ⟨u, a3, j⟩ := bbind j; refine At.call rfl Q113.callee rfl rfl rfl (Q113.spec hr0 rfl hc0 a3) ?_; rintro _ _ ⟨x, C, rfl, rfl⟩; refine At.run 1 rfl (nT (At.seq (sR 3 rfl (At.nil ?_)))); refine At.thn ?_; refine At.block ?_; obtain ⟨a4, a5, c6, j⟩ := bjoin j; obtain ⟨M, N, a6⟩ := bsome j; clear j; unfold Q83.l0 at N; obtain ⟨O, I⟩ := Q14.1 N; clear N; refine At.loopJ (X := (List Q1) × Int) (Y := (List Q1)) (e0 := 0) (fun s_ => [(3, .slice x u.length C), (8, i6 (u.length : Int)), (9, i6 s_.2)]) (fun s_ => row Q1.fl 33 x u.length C s_.1 :: Fr) (fun m_ => fun s_ => iterN (fun t_ : (List Q1) × Int => Q83.l0b u t_.1 t_.2) m_ (s_.1, s_.2) = some M) O (u, 0) I (fun J => [(3, .slice x u.length C)]) (fun J => row Q1.fl 33 x u.length C J :: Fr) (fun J => a4 (.inl J) = some r) (fun a w e hs => ⟨e.sub ⟨rfl, rfl, rfl, trivial⟩, (by exact hs)⟩) ?_ (fun a7 => ?_)
 ·rintro J j; have j := (a5 _).symm.trans j
  ·refine At.ibx ?_; refine At.thn (sR 1 rfl ?_); refine At.freeze .z fun c7 a8 a9 b2 c8 b3 => ?_; obtain ⟨b4, b5, j⟩ := bbind j; refine At.call rfl Q133.callee rfl rfl rfl (Q133.spec a8 a9 b2 b5) ?_; rintro _ _ ⟨c9, b6, b7, rfl, rfl, rfl⟩; refine At.run 1 rfl (nT (At.ret ?_)); refine At.thaw b3 ?_; refine At.drop .z ?_; obtain rfl := (bret j).symm; exact At.res (.inl rfl) rfl rfl ⟨b4.length, b6, b7, rfl, rfl, rfl⟩
 ·clear I O; rintro O ⟨D, E⟩ I; obtain ⟨b8, f_, b9, hf_, j⟩ := bit I; clear I; have j : (Q83.l0b u D E).bind _ = some M := j; unfold Q83.l0b at j
  ·refine sR 1 rfl (nT (At.seq ?_)); rcases bite j with ⟨U, j⟩ | ⟨U, j⟩
   ··refine At.condT rfl (decide_eq_true U) ?_
     refine At.skip (At.thn (At.seq ?_)); obtain ⟨c4, c5, d0, j⟩ := bjoin j; refine At.join (X := (List Q1)) (fun G => [(3, .slice x u.length C), (8, i6 (u.length : Int)), (9, i6 E)]) (fun G => row Q1.fl 33 x u.length C G :: Fr) (fun G => c4 (.inl G) = some M) ?_ (fun a2 => ?_)
     ·rintro G j; have j := (c5 _).symm.trans j
      ·refine At.region (At.run 2 rfl (At.nil ?_)); have j := bnx hf_ j; exact fun a w e hs => ⟨b8, (G, IntKind.i64.wrap (E + 1)), b9, j, e.sub ⟨rfl, rfl, rfl, trivial⟩, hs⟩
     ··refine At.block ?_
       refine sR 2 rfl (nT (sR 2 rfl ?_)); obtain ⟨p, j⟩ := bnone j; refine At.y (Y.ix .z rfl rfl rfl rfl rfl rfl p.1 p.2) rfl rfl rfl ?_; refine At.y (Y.faOwn .z p.1 p.2 rfl rfl rfl rfl rfl rfl) rfl rfl rfl ?_; refine At.y (Y.ld .z (q := 0) rfl rfl p.1 p.2 rfl rfl rfl) rfl rfl rfl (At.run 1 rfl (nT ?_)); rcases bite j with ⟨V, j⟩ | ⟨V, j⟩
       ··refine At.condT rfl (decide_eq_true V) ?_
         refine At.region (At.run 2 rfl (At.y (Y.ix .z rfl rfl rfl rfl rfl rfl p.1 p.2) rfl rfl rfl ?_)); refine At.y (Y.faOwn .z p.1 p.2 rfl rfl rfl rfl rfl rfl) rfl rfl rfl ?_; refine At.st rfl .z (q := 0) (z := { gt D E with Kind := 3 }) rfl rfl rfl p.1 p.2 rfl rfl (.c .n) ?_; refine At.nil ?_; refine At.ibn ?_; refine At.thn ?_; exact fun a w e hs => a2 (st D E ({ gt D E with Kind := 3 })) j a w (e.sub ⟨rfl, rfl, rfl, trivial⟩) hs
       ··refine At.condF rfl (decide_eq_false V) ?_
         refine At.skip ?_; refine At.ibn ?_; refine At.thn ?_; exact fun a w e hs => a2 D j a w (e.sub ⟨rfl, rfl, rfl, trivial⟩) hs
   ··refine At.condF rfl (decide_eq_false U) ?_
     refine At.exit ?_; refine At.the ?_; refine At.the ?_; exact fun a w e hs => a7 D (bdn j a6) a w (e.sub ⟨rfl, trivial⟩) hs

noncomputable def Q52.l0b (a0 : List Q1) (u : (List Int)) (q : List Int) (p : Int) : Option (((List Int) × Int) ⊕ (((List Int)) ⊕ ((List Int)))) :=
 if p < (a0.length : Int) then
 jn (
 if (0 : Int) ≤ p ∧ p < (a0.length : Int) then
 if (gt a0 p).Kind = 4 then
 if (0 : Int) ≤ p ∧ p < (u.length : Int) then
 if (0 : Int) ≤ gt u p then
 if (0 : Int) ≤ p ∧ p < ((List.replicate (a0.length : Int).toNat (0 : Int)).length : Int) then
 some (.inl (st q p (Bw.shl .u64 1 (gt u p))))
 else none
 else none
 else none
 else
 jn (
 if (gt a0 p).Kind = 6 then
 some (.inl (decide ((gt a0 p).Kind = 6)))
 else
 some (.inl (decide ((gt a0 p).Kind = 7)))) (fun (x : Bool) =>
 if x = true then
 if (0 : Int) ≤ (gt a0 p).A ∧ (gt a0 p).A < ((List.replicate (a0.length : Int).toNat (0 : Int)).length : Int) then
 if (0 : Int) ≤ (gt a0 p).B ∧ (gt a0 p).B < ((List.replicate (a0.length : Int).toNat (0 : Int)).length : Int) then
 if (0 : Int) ≤ p ∧ p < ((List.replicate (a0.length : Int).toNat (0 : Int)).length : Int) then
 some (.inl (st q p (bor .u64 (gt q ((gt a0 p).A)) (gt q ((gt a0 p).B)))))
 else none
 else none
 else none
 else
 jn (
 if (gt a0 p).Kind = 8 then
 some (.inl (decide ((gt a0 p).Kind = 8)))
 else
 some (.inl (decide ((gt a0 p).Kind = 9)))) (fun (C : Bool) =>
 if C = true then
 if (0 : Int) ≤ (gt a0 p).A ∧ (gt a0 p).A < ((List.replicate (a0.length : Int).toNat (0 : Int)).length : Int) then
 if (0 : Int) ≤ p ∧ p < ((List.replicate (a0.length : Int).toNat (0 : Int)).length : Int) then
 some (.inl (st q p (gt q ((gt a0 p).A))))
 else none
 else none
 else
 jn (
 if (gt a0 p).Kind = 10 then
 some (.inl (decide ((gt a0 p).Kind = 10)))
 else
 some (.inl (decide ((gt a0 p).Kind = 11)))) (fun (D : Bool) =>
 if D = true then
 if (0 : Int) ≤ (gt a0 p).A ∧ (gt a0 p).A < ((List.replicate (a0.length : Int).toNat (0 : Int)).length : Int) then
 if (0 : Int) ≤ p then
 if (0 : Int) ≤ p ∧ p < ((List.replicate (a0.length : Int).toNat (0 : Int)).length : Int) then
 some (.inl (st q p (bandnot .u64 (gt q ((gt a0 p).A)) (Bw.shl .u64 1 p))))
 else none
 else none
 else none
 else
 some (.inl q))))
 else none) (fun (E : List Int) =>
 nx (E, IntKind.i64.wrap (p + 1)))
 else
 dn (.inl q)
noncomputable def Q52.l0 (a0 : List Q1) (p : (List Int)) (q : List Int) (u : Int) : Option (((List Int)) ⊕ ((List Int))) := iter (fun t_ : (List Int) × Int => Q52.l0b a0 p t_.1 t_.2) (q, u)
noncomputable def Q52.f (a0 : List Q1) : Option (List Int) :=
 (Q102.f a0).bind fun p =>
 if p = true then
 (Q83.f a0).bind fun q =>
 if (0 : Int) ≤ (a0.length : Int) ∧ (8 : Int) * (a0.length : Int) ≤ 281474976710656 then
 jn (Q52.l0 a0 q (List.replicate (a0.length : Int).toNat (0 : Int)) 0) (fun (u : List Int) =>
 some u)
 else none
 else
 some ([] : List Int)
theorem Q52.callee : Callee Tryz.prog 26 := ⟨_, Tryz.func26, by kernel_rfl, by kernel_rfl⟩
theorem Q52.spec {a0 : List Q1} (hr0 : RdS Q1.fl.rep R.heap A0 a0) (hn0 : a0.length = n0) (hc0 : n0 ≤ c0) {r : (List Int)} (j : Q52.f a0 = some r) :
 Spec Tryz.prog 26 [.slice A0 n0 c0] R (Fr) (fun v l' => ∃ (b3 : Nat) (c9 : Option Addr) (d0 : Nat), v = .slice c9 b3 d0 ∧ row (Fl.int .u64) 28 c9 b3 d0 r :: Fr = l' ∧ r.length = b3) := by
 subst hn0; refine Spec.of Tryz.func26 rfl rfl ?_; unfold Q52.f at j; have j := brun j; refine sR 1 rfl (nT (At.seq (At.seq (At.region ?_)))); refine At.run 1 rfl ?_; obtain ⟨f5, d5, j⟩ := bbind j; refine At.call rfl Q102.callee rfl rfl rfl (Q102.spec hr0 rfl hc0 d5) ?_; rintro _ _ ⟨rfl, rfl⟩; refine At.run 1 rfl (nT ?_); rcases bite j with ⟨b4, j⟩ | ⟨b4, j⟩
 ··refine At.condF rfl (nf b4) ?_
   refine At.skip (At.thn (sR 1 rfl ?_)); obtain ⟨x, d6, j⟩ := bbind j; refine At.call rfl Q83.callee rfl rfl rfl (Q83.spec hr0 rfl hc0 d6) ?_; rintro _ _ ⟨f6, E, G, rfl, rfl, rfl⟩; refine At.run 1 rfl (nT (sR 2 rfl ?_)); obtain ⟨d1, j⟩ := bnone j; refine At.make (F := (Fl.int .u64)) (z := 0) rfl rfl rfl rfl rfl rfl rfl rfl rfl rfl d1.1 d1.2 (by decide) rfl (fun C D => ?_); refine At.run 1 rfl (nT (At.seq (sR 3 rfl (At.nil ?_)))); refine At.thn ?_; refine At.block ?_; obtain ⟨d7, d8, f7, j⟩ := bjoin j; obtain ⟨I, b5, d9⟩ := bsome j; clear j; unfold Q52.l0 at b5; obtain ⟨b6, L⟩ := Q14.1 b5; clear b5; let T1 : HProp := row (Fl.int .i64) 3 E x.length G x; refine At.loopJ (X := (List Int) × Int) (Y := (List Int)) (e0 := 0) (fun s_ => [(3, .slice E x.length G), (4, .slice C ((List.replicate (a0.length : Int).toNat (0 : Int)).length) D), (15, .slice A0 a0.length c0), (16, i6 (a0.length : Int)), (17, i6 s_.2)]) (fun s_ => row (Fl.int .u64) 28 C ((List.replicate (a0.length : Int).toNat (0 : Int)).length) D s_.1 :: T1 :: Fr) (fun m_ => fun s_ => iterN (fun t_ : (List Int) × Int => Q52.l0b a0 x t_.1 t_.2) m_ (s_.1, s_.2) = some I) b6 ((List.replicate (a0.length : Int).toNat (0 : Int)), 0) L (fun M => [(4, .slice C ((List.replicate (a0.length : Int).toNat (0 : Int)).length) D)]) (fun M => row (Fl.int .u64) 28 C ((List.replicate (a0.length : Int).toNat (0 : Int)).length) D M :: T1 :: Fr) (fun M => d7 (.inl M) = some r) (fun a w e hs => ⟨e.sub ⟨rfl, rfl, rfl, rfl, rfl, trivial⟩, (by exact hs)⟩) ?_ (fun e1 => ?_)
   ·rintro M j; have j := (d8 _).symm.trans j
    ·refine At.ibx ?_; refine At.thn (sR 2 rfl (nT (At.ret ?_))); refine At.rowLen .z fun e2 => ?_; refine At.drop (.s .z) ?_; cases bret j; exact At.res (.inl rfl) rfl rfl ⟨(List.replicate (a0.length : Int).toNat (0 : Int)).length, C, D, rfl, rfl, e2⟩
   ·clear L b6; rintro b6 ⟨u, p⟩ L; obtain ⟨e3, f_, e4, hf_, j⟩ := bit L; clear L; have j : (Q52.l0b a0 x u p).bind _ = some I := j; unfold Q52.l0b at j
    ·refine sR 1 rfl (nT (At.seq ?_)); rcases bite j with ⟨b7, j⟩ | ⟨b7, j⟩
     ··refine At.condT rfl (decide_eq_true b7) ?_
       refine At.skip (At.thn (At.seq ?_)); obtain ⟨e5, e6, f8, j⟩ := bjoin j; refine At.join (X := (List Int)) (fun J => [(3, .slice E x.length G), (4, .slice C ((List.replicate (a0.length : Int).toNat (0 : Int)).length) D), (15, .slice A0 a0.length c0), (16, i6 (a0.length : Int)), (17, i6 p)]) (fun J => row (Fl.int .u64) 28 C ((List.replicate (a0.length : Int).toNat (0 : Int)).length) D J :: T1 :: Fr) (fun J => e5 (.inl J) = some I) ?_ (fun N => ?_)
       ·rintro J j; have j := (e6 _).symm.trans j
        ·refine At.region (At.run 2 rfl (At.nil ?_)); have j := bnx hf_ j; exact fun a w e hs => ⟨e3, (J, IntKind.i64.wrap (p + 1)), e4, j, e.sub ⟨rfl, rfl, rfl, rfl, rfl, trivial⟩, hs⟩
       ··refine At.block ?_
         refine sR 1 rfl ?_; obtain ⟨Z, j⟩ := bnone j; refine At.y (Y.ixRd hr0 rfl rfl rfl rfl rfl rfl rfl Z.1 Z.2) rfl rfl rfl (At.y (Y.ldFl hr0 rfl (q := 0) rfl rfl Z.1 Z.2 rfl rfl rfl) rfl rfl rfl ?_); refine At.alloc rfl rfl rfl (fun a1 => ?_); refine At.run 1 rfl ?_; refine At.store rfl rfl rfl rfl .z rfl rfl rfl (.c (.c (.c (.c (.c .n))))) ?_; refine nT (sR 1 rfl (At.y (Y.load rfl rfl .z rfl rfl rfl) rfl rfl rfl (nT ?_))); refine At.block ?_; refine sR 2 rfl (nT ?_); rcases bite j with ⟨b8, j⟩ | ⟨b8, j⟩
         ··refine At.condT rfl (decide_eq_true b8) ?_
           refine At.region (At.run 4 rfl ?_); obtain ⟨a2, j⟩ := bnone j; refine At.y (Y.ix (.s (.s .z)) rfl rfl rfl rfl rfl rfl a2.1 a2.2) rfl rfl rfl (At.y (Y.ld (.s (.s .z)) (q := 0) rfl rfl a2.1 a2.2 rfl rfl rfl) rfl rfl rfl ?_); obtain ⟨e7, j⟩ := bnone j; refine At.y (Y.shl rfl rfl e7) rfl rfl rfl ?_; obtain ⟨a3, j⟩ := bnone j; refine At.y (Y.ix (.s .z) rfl rfl rfl rfl rfl rfl a3.1 a3.2) rfl rfl rfl ?_; refine At.st rfl (.s .z) (q := 0) (z := (Bw.shl .u64 1 (gt x p))) rfl rfl rfl a3.1 a3.2 rfl rfl (.c .n) ?_; refine At.nil ?_; refine At.ibn ?_; refine At.ibn ?_; refine At.thn (At.drop (.s .z) ?_); exact fun a w e hs => N (st u p (Bw.shl .u64 1 (gt x p))) j a w (e.sub ⟨rfl, rfl, rfl, rfl, rfl, trivial⟩) hs
         ··refine At.condF rfl (decide_eq_false b8) ?_
           refine At.seq (sR 2 rfl (nT ?_)); obtain ⟨e8, e9, f9, j⟩ := bjoin j; let T2 : HProp := pc a1 [i6 ((gt a0 p).Kind), i6 ((gt a0 p).A), i6 ((gt a0 p).B), .string ⟨((gt a0 p).Name).toArray⟩, i6 ((gt a0 p).At)] 33; let T3 : HProp := row (Fl.int .u64) 28 C ((List.replicate (a0.length : Int).toNat (0 : Int)).length) D u; refine At.join (X := Bool) (fun O => [(3, .slice E x.length G), (4, .slice C ((List.replicate (a0.length : Int).toNat (0 : Int)).length) D), (5, i6 p), (6, bp a1), (15, .slice A0 a0.length c0), (16, i6 (a0.length : Int)), (17, i6 p), (23, i6 ((gt a0 p).Kind)), (34, .bool O)]) (fun O => T2 :: T3 :: T1 :: Fr) (fun O => e8 (.inl O) = some I) ?_ (fun d2 => ?_)
           ·rintro O j; have j := (e9 _).symm.trans j
            ·rcases bite j with ⟨b9, j⟩ | ⟨b9, j⟩
             ··refine At.condT rfl b9 ?_
               refine At.still 14 (by kernel_rfl) ?_; refine At.Still.run 4 rfl ?_; refine At.Still.y (Y.load rfl rfl .z rfl rfl rfl) rfl rfl rfl ?_; obtain ⟨a4, j⟩ := bnone j; refine At.Still.y (Y.ix (.s .z) rfl rfl rfl rfl rfl rfl a4.1 a4.2) rfl rfl rfl ?_; refine At.Still.y (Y.ld (.s .z) (q := 0) rfl rfl a4.1 a4.2 rfl rfl rfl) rfl rfl rfl ?_; refine At.Still.run 2 rfl ?_; refine At.Still.y (Y.load rfl rfl .z rfl rfl rfl) rfl rfl rfl ?_; obtain ⟨a5, j⟩ := bnone j; refine At.Still.y (Y.ix (.s .z) rfl rfl rfl rfl rfl rfl a5.1 a5.2) rfl rfl rfl ?_; refine At.Still.y (Y.ld (.s .z) (q := 0) rfl rfl a5.1 a5.2 rfl rfl rfl) rfl rfl rfl ?_; refine At.Still.run 1 rfl ?_; obtain ⟨a6, j⟩ := bnone j; refine At.Still.y (Y.ix (.s .z) rfl rfl rfl rfl rfl rfl a6.1 a6.2) rfl rfl rfl ?_; refine At.Still.nil ?_; refine At.st rfl (.s .z) (q := 0) (z := (bor .u64 (gt u ((gt a0 p).A)) (gt u ((gt a0 p).B)))) rfl rfl rfl a6.1 a6.2 rfl rfl (.c .n) ?_; refine At.nil ?_; refine At.ibn ?_; refine At.ibn ?_; refine At.thn (At.drop (.s .z) ?_); exact fun a w e hs => N (st u p (bor .u64 (gt u ((gt a0 p).A)) (gt u ((gt a0 p).B)))) j a w (e.sub ⟨rfl, rfl, rfl, rfl, rfl, trivial⟩) hs
             ··refine At.condF rfl (bn b9) ?_
               refine At.seq (sR 2 rfl (nT ?_)); obtain ⟨f0, f1, g0, j⟩ := bjoin j; refine At.join (X := Bool) (fun U => [(3, .slice E x.length G), (4, .slice C ((List.replicate (a0.length : Int).toNat (0 : Int)).length) D), (5, i6 p), (6, bp a1), (15, .slice A0 a0.length c0), (16, i6 (a0.length : Int)), (17, i6 p), (23, i6 ((gt a0 p).Kind)), (51, .bool U)]) (fun U => T2 :: T3 :: T1 :: Fr) (fun U => f0 (.inl U) = some I) ?_ (fun d3 => ?_)
               ·rintro U j; have j := (f1 _).symm.trans j
                ·rcases bite j with ⟨c4, j⟩ | ⟨c4, j⟩
                 ··refine At.condT rfl c4 ?_
                   refine At.region (At.run 4 rfl (At.y (Y.load rfl rfl .z rfl rfl rfl) rfl rfl rfl ?_)); obtain ⟨a7, j⟩ := bnone j; refine At.y (Y.ix (.s .z) rfl rfl rfl rfl rfl rfl a7.1 a7.2) rfl rfl rfl (At.y (Y.ld (.s .z) (q := 0) rfl rfl a7.1 a7.2 rfl rfl rfl) rfl rfl rfl ?_); obtain ⟨a8, j⟩ := bnone j; refine At.y (Y.ix (.s .z) rfl rfl rfl rfl rfl rfl a8.1 a8.2) rfl rfl rfl ?_; refine At.st rfl (.s .z) (q := 0) (z := (gt u ((gt a0 p).A))) rfl rfl rfl a8.1 a8.2 rfl rfl (.c .n) ?_; refine At.nil ?_; refine At.ibn ?_; refine At.ibn ?_; refine At.thn (At.drop (.s .z) ?_); exact fun a w e hs => N (st u p (gt u ((gt a0 p).A))) j a w (e.sub ⟨rfl, rfl, rfl, rfl, rfl, trivial⟩) hs
                 ··refine At.condF rfl (bn c4) ?_
                   refine At.seq (sR 2 rfl (nT ?_)); obtain ⟨f2, f3, g1, j⟩ := bjoin j; refine At.join (X := Bool) (fun V => [(3, .slice E x.length G), (4, .slice C ((List.replicate (a0.length : Int).toNat (0 : Int)).length) D), (5, i6 p), (6, bp a1), (15, .slice A0 a0.length c0), (16, i6 (a0.length : Int)), (17, i6 p), (62, .bool V)]) (fun V => T2 :: T3 :: T1 :: Fr) (fun V => f2 (.inl V) = some I) ?_ (fun d4 => ?_)
                   ·rintro V j; have j := (f3 _).symm.trans j
                    ·rcases bite j with ⟨c5, j⟩ | ⟨c5, j⟩
                     ··refine At.condT rfl c5 ?_
                       refine At.still 11 (by kernel_rfl) ?_; refine At.Still.run 4 rfl ?_; refine At.Still.y (Y.load rfl rfl .z rfl rfl rfl) rfl rfl rfl ?_; obtain ⟨a9, j⟩ := bnone j; refine At.Still.y (Y.ix (.s .z) rfl rfl rfl rfl rfl rfl a9.1 a9.2) rfl rfl rfl ?_; refine At.Still.y (Y.ld (.s .z) (q := 0) rfl rfl a9.1 a9.2 rfl rfl rfl) rfl rfl rfl ?_; refine At.Still.run 1 rfl ?_; obtain ⟨f4, j⟩ := bnone j; refine At.Still.y (Y.shl rfl rfl f4) rfl rfl rfl ?_; refine At.Still.run 1 rfl ?_; obtain ⟨b2, j⟩ := bnone j; refine At.Still.y (Y.ix (.s .z) rfl rfl rfl rfl rfl rfl b2.1 b2.2) rfl rfl rfl ?_; refine At.Still.nil ?_; refine At.st rfl (.s .z) (q := 0) (z := (bandnot .u64 (gt u ((gt a0 p).A)) (Bw.shl .u64 1 p))) rfl rfl rfl b2.1 b2.2 rfl rfl (.c .n) ?_; refine At.nil ?_; refine At.ibn ?_; refine At.ibn ?_; refine At.thn (At.drop (.s .z) ?_); exact fun a w e hs => N (st u p (bandnot .u64 (gt u ((gt a0 p).A)) (Bw.shl .u64 1 p))) j a w (e.sub ⟨rfl, rfl, rfl, rfl, rfl, trivial⟩) hs
                     ··refine At.condF rfl (bn c5) ?_
                       refine At.skip ?_; refine At.ibn ?_; refine At.ibn ?_; refine At.thn (At.drop .z ?_); exact fun a w e hs => N u j a w (e.sub ⟨rfl, rfl, rfl, rfl, rfl, trivial⟩) hs
                   ··rcases bite j with ⟨c6, j⟩ | ⟨c6, j⟩
                     ··refine At.condT rfl (decide_eq_true c6) ?_
                       refine At.skip (At.thn ?_); exact fun a w e hs => d4 (decide ((gt a0 p).Kind = 10)) j a w (e.sub ⟨rfl, rfl, rfl, rfl, rfl, rfl, rfl, rfl, trivial⟩) hs
                     ··refine At.condF rfl (decide_eq_false c6) ?_
                       refine At.region (At.run 2 rfl (nT ?_)); exact fun a w e hs => d4 (decide ((gt a0 p).Kind = 11)) j a w (e.sub ⟨rfl, rfl, rfl, rfl, rfl, rfl, rfl, rfl, trivial⟩) hs
               ··rcases bite j with ⟨c7, j⟩ | ⟨c7, j⟩
                 ··refine At.condT rfl (decide_eq_true c7) ?_
                   refine At.skip (At.thn ?_); exact fun a w e hs => d3 (decide ((gt a0 p).Kind = 8)) j a w (e.sub ⟨rfl, rfl, rfl, rfl, rfl, rfl, rfl, rfl, rfl, trivial⟩) hs
                 ··refine At.condF rfl (decide_eq_false c7) ?_
                   refine At.region (At.run 2 rfl (nT ?_)); exact fun a w e hs => d3 (decide ((gt a0 p).Kind = 9)) j a w (e.sub ⟨rfl, rfl, rfl, rfl, rfl, rfl, rfl, rfl, rfl, trivial⟩) hs
           ··rcases bite j with ⟨c8, j⟩ | ⟨c8, j⟩
             ··refine At.condT rfl (decide_eq_true c8) ?_
               refine At.skip (At.thn ?_); exact fun a w e hs => d2 (decide ((gt a0 p).Kind = 6)) j a w (e.sub ⟨rfl, rfl, rfl, rfl, rfl, rfl, rfl, rfl, rfl, trivial⟩) hs
             ··refine At.condF rfl (decide_eq_false c8) ?_
               refine At.region (At.run 2 rfl (nT ?_)); exact fun a w e hs => d2 (decide ((gt a0 p).Kind = 7)) j a w (e.sub ⟨rfl, rfl, rfl, rfl, rfl, rfl, rfl, rfl, rfl, trivial⟩) hs
     ··refine At.condF rfl (decide_eq_false b7) ?_
       refine At.exit ?_; refine At.the ?_; refine At.the ?_; exact fun a w e hs => e1 u (bdn j d9) a w (e.sub ⟨rfl, trivial⟩) hs
 ··refine At.condT rfl (nt (bn b4)) ?_
   refine sR 1 rfl (nT (At.ret (At.thr ?_))); refine At.nilRow (Fl.int .u64) 28 ?_; cases bret j; exact At.res (.inl rfl) rfl rfl ⟨0, none, 0, rfl, rfl, rfl⟩

noncomputable def Q39.l1b (G : (List Int)) (u D : List Int) (p E : Int) (x : List Int) (C : Int) : Option (((List Int) × Int) ⊕ (((List Int)) ⊕ (((List Int) × (List Int)) ⊕ (((List Int) × (List Int) × Int) ⊕ (((List Int) × (List Int)) ⊕ ((List Int))))))) :=
 if C = 0 then
 dn (.inl x)
 else
 (Q26.f C).bind fun q =>
 if (0 : Int) ≤ q ∧ q < ((List.replicate (G.length : Int).toNat (0 : Int)).length : Int) then
 nx ((st x q (if gt x q < gt (st D p (IntKind.i64.wrap (gt u p + (Int.tmod (IntKind.i64.wrap (gt u p + E)) 2)))) p then gt (st D p (IntKind.i64.wrap (gt u p + (Int.tmod (IntKind.i64.wrap (gt u p + E)) 2)))) p else gt x q)), band .u64 C (IntKind.u64.wrap (C - 1)))
 else none
noncomputable def Q39.l1 (p : (List Int)) (q u : List Int) (x C : Int) (D : List Int) (E : Int) : Option (((List Int)) ⊕ (((List Int) × (List Int)) ⊕ (((List Int) × (List Int) × Int) ⊕ (((List Int) × (List Int)) ⊕ ((List Int)))))) := iter (fun t_ : (List Int) × Int => Q39.l1b p q u x C t_.1 t_.2) (D, E)
noncomputable def Q39.l0b (a0 : List Q1) (q : (List Int)) (u x : List Int) (p : Int) : Option (((List Int) × (List Int) × Int) ⊕ (((List Int) × (List Int)) ⊕ ((List Int)))) :=
 if p < ((a0.take (q.length : Int).toNat).length : Int) then
 jn (
 if (0 : Int) ≤ p ∧ p < ((a0.take (q.length : Int).toNat).length : Int) then
 jn (
 if (gt (a0.take (q.length : Int).toNat) p).Kind = 10 then
 some (.inl false)
 else
 some (.inl (!(decide ((gt (a0.take (q.length : Int).toNat) p).Kind = 11))))) (fun (D : Bool) =>
 if D = true then
 some (.inl (u, x))
 else
 jn (
 if (gt (a0.take (q.length : Int).toNat) p).Kind = 10 then
 some (.inl 1)
 else
 some (.inl 0)) (fun (C : Int) =>
 if (0 : Int) ≤ p ∧ p < ((List.replicate (q.length : Int).toNat (0 : Int)).length : Int) then
 if (0 : Int) ≤ p ∧ p < (q.length : Int) then
 jn (Q39.l1 q u x p C u (gt q p)) (fun (E : List Int) =>
 some (.inl (E, (st x p (IntKind.i64.wrap (gt u p + (Int.tmod (IntKind.i64.wrap (gt u p + C)) 2)))))))
 else none
 else none))
 else none) (fun (s_ : (List Int) × (List Int)) =>
 nx (s_.1, s_.2, IntKind.i64.wrap (p + 1)))
 else
 dn (.inl (u, x))
noncomputable def Q39.l0 (a0 : List Q1) (p : (List Int)) (q u : List Int) (x : Int) : Option (((List Int) × (List Int)) ⊕ ((List Int))) := iter (fun t_ : (List Int) × (List Int) × Int => Q39.l0b a0 p t_.1 t_.2.1 t_.2.2) (q, u, x)
noncomputable def Q39.f (a0 : List Q1) : Option (List Int) :=
 (Q52.f a0).bind fun p =>
 if (0 : Int) ≤ (p.length : Int) ∧ (8 : Int) * (p.length : Int) ≤ 281474976710656 then
 if (0 : Int) ≤ (p.length : Int) ∧ (p.length : Int) ≤ (a0.length : Int) then
 jn (Q39.l0 a0 p (List.replicate (p.length : Int).toNat (0 : Int)) (List.replicate (p.length : Int).toNat (0 : Int)) 0) (fun (s_ : (List Int) × (List Int)) =>
 some s_.2)
 else none
 else none
theorem Q39.callee : Callee Tryz.prog 48 := ⟨_, Tryz.func48, by kernel_rfl, by kernel_rfl⟩
theorem Q39.spec {a0 : List Q1} (hr0 : RdS Q1.fl.rep R.heap A0 a0) (hn0 : a0.length = n0) (hc0 : n0 ≤ c0) (hg0 : RdS (Fl.int .u8).rep R.heap (some ⟨0, 0, none⟩) Tryz.gtab0) {r : (List Int)} (j : Q39.f a0 = some r) :
 Spec Tryz.prog 48 [.slice A0 n0 c0] R (Fr) (fun v l' => ∃ (a8 : Nat) (c5 : Option Addr) (c6 : Nat), v = .slice c5 a8 c6 ∧ row (Fl.int .i64) 3 c5 a8 c6 r :: Fr = l' ∧ r.length = a8) := by
 subst hn0; refine Spec.of Tryz.func48 rfl rfl ?_; unfold Q39.f at j; have j := brun j; refine sR 1 rfl (nT (sR 1 rfl ?_)); obtain ⟨p, d3, j⟩ := bbind j; refine At.call rfl Q52.callee rfl rfl rfl (Q52.spec hr0 rfl hc0 d3) ?_; rintro _ _ ⟨g0, N, O, rfl, rfl, rfl⟩; refine At.run 1 rfl (nT (sR 2 rfl ?_)); obtain ⟨a5, j⟩ := bnone j; refine At.make (F := (Fl.int .i64)) (z := 0) rfl rfl rfl rfl rfl rfl rfl rfl rfl rfl a5.1 a5.2 (by decide) rfl (fun E G => ?_); refine At.run 1 rfl (nT (sR 2 rfl ?_)); refine At.make (F := (Fl.int .i64)) (z := 0) rfl rfl rfl rfl rfl rfl rfl rfl rfl rfl a5.1 a5.2 (by decide) rfl (fun I J => ?_); refine At.run 1 rfl (nT (At.seq (sR 3 rfl ?_))); obtain ⟨c7, j⟩ := bnone j; have g1 : (a0.take (p.length : Int).toNat).length ≤ c0 := Nat.le_trans (List.length_take_le' _ _) (by have h1_ := (show a0.length = a0.length from rfl); have h2_ := hc0; omega); refine At.y (Y.slTo rfl rfl rfl rfl rfl rfl hc0 c7.1 c7.2) rfl rfl rfl ?_; refine At.run 2 rfl (nT ?_); refine At.block ?_; obtain ⟨d4, d5, g2, j⟩ := bjoin j; obtain ⟨V, a9, d6⟩ := bsome j; clear j; unfold Q39.l0 at a9; obtain ⟨b2, a1⟩ := Q14.1 a9; clear a9; let T4 : HProp := row (Fl.int .u64) 28 N p.length O p; refine At.loopJ (X := (List Int) × (List Int) × Int) (Y := (List Int) × (List Int)) (e0 := 0) (fun s_ => [(3, .slice N p.length O), (4, .slice E ((List.replicate (p.length : Int).toNat (0 : Int)).length) G), (5, .slice I ((List.replicate (p.length : Int).toNat (0 : Int)).length) J), (22, .slice A0 ((a0.take (p.length : Int).toNat).length) c0), (23, i6 ((a0.take (p.length : Int).toNat).length : Int)), (24, i6 s_.2.2)]) (fun s_ => row (Fl.int .i64) 3 I ((List.replicate (p.length : Int).toNat (0 : Int)).length) J s_.1 :: row (Fl.int .i64) 3 E ((List.replicate (p.length : Int).toNat (0 : Int)).length) G s_.2.1 :: T4 :: Fr) (fun m_ => fun s_ => iterN (fun t_ : (List Int) × (List Int) × Int => Q39.l0b a0 p t_.1 t_.2.1 t_.2.2) m_ (s_.1, s_.2.1, s_.2.2) = some V) b2 ((List.replicate (p.length : Int).toNat (0 : Int)), (List.replicate (p.length : Int).toNat (0 : Int)), 0) a1 (fun s_ => [(4, .slice E ((List.replicate (p.length : Int).toNat (0 : Int)).length) G)]) (fun s_ => row (Fl.int .i64) 3 I ((List.replicate (p.length : Int).toNat (0 : Int)).length) J s_.1 :: row (Fl.int .i64) 3 E ((List.replicate (p.length : Int).toNat (0 : Int)).length) G s_.2 :: T4 :: Fr) (fun s_ => d4 (.inl (s_.1, s_.2)) = some r) (fun a w e hs => ⟨e.sub ⟨rfl, rfl, rfl, rfl, rfl, rfl, trivial⟩, (by exact hs)⟩) ?_ (fun d7 => ?_)
 ·rintro ⟨g3, g4⟩ j; have j := (d5 _).symm.trans j
  ·refine At.ibx ?_; refine At.thn (sR 2 rfl (nT (At.ret ?_))); refine At.rowLen (.s .z) fun d8 => ?_; refine At.drop .z (At.drop (.s .z) ?_); cases bret j; exact At.res (.inl rfl) rfl rfl ⟨(List.replicate (p.length : Int).toNat (0 : Int)).length, E, G, rfl, rfl, d8⟩
 ·clear a1 b2; rintro b2 ⟨x, L, u⟩ a1; obtain ⟨d9, f_, e1, hf_, j⟩ := bit a1; clear a1; have j : (Q39.l0b a0 p x L u).bind _ = some V := j; unfold Q39.l0b at j
  ·refine sR 1 rfl (nT (At.seq ?_)); rcases bite j with ⟨b3, j⟩ | ⟨b3, j⟩
   ··refine At.condT rfl (decide_eq_true b3) ?_
     refine At.skip (At.thn (At.seq ?_)); obtain ⟨e2, e3, g5, j⟩ := bjoin j; refine At.join (X := (List Int) × (List Int)) (fun s_ => [(3, .slice N p.length O), (4, .slice E ((List.replicate (p.length : Int).toNat (0 : Int)).length) G), (5, .slice I ((List.replicate (p.length : Int).toNat (0 : Int)).length) J), (22, .slice A0 ((a0.take (p.length : Int).toNat).length) c0), (23, i6 ((a0.take (p.length : Int).toNat).length : Int)), (24, i6 u)]) (fun s_ => row (Fl.int .i64) 3 I ((List.replicate (p.length : Int).toNat (0 : Int)).length) J s_.1 :: row (Fl.int .i64) 3 E ((List.replicate (p.length : Int).toNat (0 : Int)).length) G s_.2 :: T4 :: Fr) (fun s_ => e2 (.inl (s_.1, s_.2)) = some V) ?_ (fun c8 => ?_)
     ·rintro ⟨e4, e5⟩ j; have j := (e3 _).symm.trans j
      ·refine At.region (At.run 2 rfl (At.nil ?_)); have j := bnx hf_ j; exact fun a w e hs => ⟨d9, (e4, e5, IntKind.i64.wrap (u + 1)), e1, j, e.sub ⟨rfl, rfl, rfl, rfl, rfl, rfl, trivial⟩, hs⟩
     ··refine At.block ?_
       refine sR 1 rfl ?_; obtain ⟨a6, j⟩ := bnone j; refine At.y (Y.ixRd (RdS.take hr0 _) rfl rfl rfl rfl rfl rfl rfl a6.1 a6.2) rfl rfl rfl (At.y (Y.ldFl (RdS.take hr0 _) rfl (q := 0) rfl rfl a6.1 a6.2 rfl rfl rfl) rfl rfl rfl ?_); refine At.alloc rfl rfl rfl (fun c9 => ?_); refine At.run 1 rfl ?_; refine At.store rfl rfl rfl rfl .z rfl rfl rfl (.c (.c (.c (.c (.c .n))))) ?_; refine nT (At.seq (sR 1 rfl (At.y (Y.load rfl rfl .z rfl rfl rfl) rfl rfl rfl (At.run 2 rfl ?_)))); obtain ⟨e6, e7, g6, j⟩ := bjoin j; let T5 : HProp := pc c9 [i6 ((gt (a0.take (p.length : Int).toNat) u).Kind), i6 ((gt (a0.take (p.length : Int).toNat) u).A), i6 ((gt (a0.take (p.length : Int).toNat) u).B), .string ⟨((gt (a0.take (p.length : Int).toNat) u).Name).toArray⟩, i6 ((gt (a0.take (p.length : Int).toNat) u).At)] 33; let T6 : HProp := row (Fl.int .i64) 3 I ((List.replicate (p.length : Int).toNat (0 : Int)).length) J x; let T7 : HProp := row (Fl.int .i64) 3 E ((List.replicate (p.length : Int).toNat (0 : Int)).length) G L; refine At.joinO 4 (X := Bool) (fun a2 => [(3, .slice N p.length O), (4, .slice E ((List.replicate (p.length : Int).toNat (0 : Int)).length) G), (5, .slice I ((List.replicate (p.length : Int).toNat (0 : Int)).length) J), (6, i6 u), (7, bp c9), (22, .slice A0 ((a0.take (p.length : Int).toNat).length) c0), (23, i6 ((a0.take (p.length : Int).toNat).length : Int)), (24, i6 u), (36, .bool a2)]) (fun a2 => T5 :: T6 :: T7 :: T4 :: Fr) (fun a2 => e6 (.inl a2) = some V) ?_ (fun d0 => ?_)
       ·rintro a2 j; have j := (e7 _).symm.trans j
        ·refine nT ?_; rcases bite j with ⟨b4, j⟩ | ⟨b4, j⟩
         ··refine At.condT rfl b4 ?_
           refine At.exit ?_; refine At.the ?_; refine At.ibx ?_; refine At.thn (At.drop .z ?_); exact fun a w e hs => c8 (x, L) j a w (e.sub ⟨rfl, rfl, rfl, rfl, rfl, rfl, trivial⟩) hs
         ··refine At.condF rfl (bn b4) ?_
           refine At.skip (At.thn (sR 1 rfl (nT (At.seq ?_)))); refine sR 1 rfl (At.y (Y.load rfl rfl .z rfl rfl rfl) rfl rfl rfl (At.run 1 rfl (nT ?_))); obtain ⟨e8, e9, g7, j⟩ := bjoin j; refine At.join (X := Int) (fun D => [(3, .slice N p.length O), (4, .slice E ((List.replicate (p.length : Int).toNat (0 : Int)).length) G), (5, .slice I ((List.replicate (p.length : Int).toNat (0 : Int)).length) J), (6, i6 u), (8, i6 D), (22, .slice A0 ((a0.take (p.length : Int).toNat).length) c0), (23, i6 ((a0.take (p.length : Int).toNat).length : Int)), (24, i6 u)]) (fun D => T5 :: T6 :: T7 :: T4 :: Fr) (fun D => e8 (.inl D) = some V) ?_ (fun d1 => ?_)
           ·rintro D j; have j := (e9 _).symm.trans j
            ·refine At.seq ?_; refine At.still 15 (by kernel_rfl) ?_; refine At.Still.run 4 rfl ?_; obtain ⟨C, j⟩ := bnone j; refine At.Still.y (Y.ix (.s .z) rfl rfl rfl rfl rfl rfl C.1 C.2) rfl rfl rfl ?_; refine At.Still.y (Y.ld (.s .z) (q := 0) rfl rfl C.1 C.2 rfl rfl rfl) rfl rfl rfl ?_; refine At.Still.run 2 rfl ?_; refine At.Still.y (Y.ix (.s .z) rfl rfl rfl rfl rfl rfl C.1 C.2) rfl rfl rfl ?_; refine At.Still.y (Y.ld (.s .z) (q := 0) rfl rfl C.1 C.2 rfl rfl rfl) rfl rfl rfl ?_; refine At.Still.run 2 rfl ?_; refine At.Still.y (Y.rem rfl rfl (by decide)) rfl rfl rfl ?_; refine At.Still.run 1 rfl ?_; refine At.Still.y (Y.ix (.s (.s .z)) rfl rfl rfl rfl rfl rfl C.1 C.2) rfl rfl rfl ?_; refine At.Still.nil ?_; refine At.st rfl (.s (.s .z)) (q := 0) (z := (IntKind.i64.wrap (gt x u + (Int.tmod (IntKind.i64.wrap (gt x u + D)) 2)))) rfl rfl rfl C.1 C.2 rfl rfl (.c .n) ?_; refine nT (sR 2 rfl ?_); obtain ⟨a7, j⟩ := bnone j; refine At.y (Y.ix (.s (.s (.s .z))) rfl rfl rfl rfl rfl rfl a7.1 a7.2) rfl rfl rfl (At.y (Y.ld (.s (.s (.s .z))) (q := 0) rfl rfl a7.1 a7.2 rfl rfl rfl) rfl rfl rfl (At.run 1 rfl (nT ?_))); refine At.block ?_; obtain ⟨f0, f4, g8, j⟩ := bjoin j; obtain ⟨d2, b5, f5⟩ := bsome j; clear j; unfold Q39.l1 at b5; obtain ⟨b6, a3⟩ := Q14.1 b5; clear b5; let T8 : HProp := row (Fl.int .i64) 3 E ((List.replicate (p.length : Int).toNat (0 : Int)).length) G (st L u (IntKind.i64.wrap (gt x u + (Int.tmod (IntKind.i64.wrap (gt x u + D)) 2)))); refine At.loopJ (X := (List Int) × Int) (Y := (List Int)) (e0 := 2) (fun s_ => [(3, .slice N p.length O), (4, .slice E ((List.replicate (p.length : Int).toNat (0 : Int)).length) G), (5, .slice I ((List.replicate (p.length : Int).toNat (0 : Int)).length) J), (6, i6 u), (9, .int .u64 s_.2), (22, .slice A0 ((a0.take (p.length : Int).toNat).length) c0), (23, i6 ((a0.take (p.length : Int).toNat).length : Int)), (24, i6 u)]) (fun s_ => T8 :: T5 :: row (Fl.int .i64) 3 I ((List.replicate (p.length : Int).toNat (0 : Int)).length) J s_.1 :: T4 :: Fr) (fun m_ => fun s_ => iterN (fun t_ : (List Int) × Int => Q39.l1b p x L u D t_.1 t_.2) m_ (s_.1, s_.2) = some d2) b6 (x, gt p u) a3 (fun Z => [(3, .slice N p.length O), (4, .slice E ((List.replicate (p.length : Int).toNat (0 : Int)).length) G), (5, .slice I ((List.replicate (p.length : Int).toNat (0 : Int)).length) J), (22, .slice A0 ((a0.take (p.length : Int).toNat).length) c0), (23, i6 ((a0.take (p.length : Int).toNat).length : Int)), (24, i6 u)]) (fun Z => T8 :: T5 :: row (Fl.int .i64) 3 I ((List.replicate (p.length : Int).toNat (0 : Int)).length) J Z :: T4 :: Fr) (fun Z => f0 (.inl Z) = some V) (fun a w e hs => ⟨e.sub ⟨rfl, rfl, rfl, rfl, rfl, rfl, rfl, rfl, trivial⟩, (by exact hs)⟩) ?_ (fun f6 => ?_)
             ·rintro Z j; have j := (f4 _).symm.trans j
              ·refine At.ibx ?_; refine At.ibn ?_; refine At.thn (At.drop (.s .z) (At.f2 (At.f1 (At.f2 ?_)))); exact fun a w e hs => c8 (Z, (st L u (IntKind.i64.wrap (gt x u + (Int.tmod (IntKind.i64.wrap (gt x u + D)) 2))))) j a w (e.sub ⟨rfl, rfl, rfl, rfl, rfl, rfl, trivial⟩) hs
             ·clear a3 b6; rintro b6 ⟨U, b7⟩ a3; obtain ⟨f7, f_, f8, hf_, j⟩ := bit a3; clear a3; have j : (Q39.l1b p x L u D U b7).bind _ = some d2 := j; unfold Q39.l1b at j
              ·refine At.seq (sR 2 rfl (nT ?_)); rcases bite j with ⟨b8, j⟩ | ⟨b8, j⟩
               ··refine At.condF rfl (nf (decide_eq_true b8)) ?_
                 refine At.exit ?_; refine At.the ?_; refine At.the ?_; exact fun a w e hs => f6 U (bdn j f5) a w (e.sub ⟨rfl, rfl, rfl, rfl, rfl, rfl, trivial⟩) hs
               ··refine At.condT rfl (nt (decide_eq_false b8)) ?_
                 refine At.skip (At.thn (At.seq ?_)); refine At.block ?_; refine sR 1 rfl ?_; obtain ⟨a4, f9, j⟩ := bbind j; refine At.call rfl Q26.callee rfl rfl rfl (Q26.spec hg0 f9) ?_; rintro _ _ ⟨rfl, rfl⟩; refine At.run 1 rfl (nT ?_); refine At.still 12 (by kernel_rfl) ?_; refine At.Still.run 4 rfl ?_; obtain ⟨M, j⟩ := bnone j; refine At.Still.y (Y.ix (.s (.s .z)) rfl rfl rfl rfl rfl rfl M.1 M.2) rfl rfl rfl ?_; refine At.Still.y (Y.ld (.s (.s .z)) (q := 0) rfl rfl M.1 M.2 rfl rfl rfl) rfl rfl rfl ?_; refine At.Still.run 2 rfl ?_; refine At.Still.y (Y.ix .z rfl rfl rfl rfl rfl rfl C.1 C.2) rfl rfl rfl ?_; refine At.Still.y (Y.ld .z (q := 0) rfl rfl C.1 C.2 rfl rfl rfl) rfl rfl rfl ?_; refine At.Still.run 1 rfl ?_; refine At.Still.y (Y.ix (.s (.s .z)) rfl rfl rfl rfl rfl rfl M.1 M.2) rfl rfl rfl ?_; refine At.Still.nil ?_; refine At.st rfl (.s (.s .z)) (q := 0) (z := (if gt U a4 < gt (st L u (IntKind.i64.wrap (gt x u + (Int.tmod (IntKind.i64.wrap (gt x u + D)) 2)))) u then gt (st L u (IntKind.i64.wrap (gt x u + (Int.tmod (IntKind.i64.wrap (gt x u + D)) 2)))) u else gt U a4)) rfl rfl rfl M.1 M.2 rfl rfl (.c .n) ?_; refine At.nil ?_; refine At.ibn ?_; refine At.thn (At.region (At.run 5 rfl (At.nil (At.f3 (At.f1 (At.f3 (At.f3 ?_))))))); have j := bnx hf_ j; exact fun a w e hs => ⟨f7, ((st U a4 (if gt U a4 < gt (st L u (IntKind.i64.wrap (gt x u + (Int.tmod (IntKind.i64.wrap (gt x u + D)) 2)))) u then gt (st L u (IntKind.i64.wrap (gt x u + (Int.tmod (IntKind.i64.wrap (gt x u + D)) 2)))) u else gt U a4)), band .u64 b7 (IntKind.u64.wrap (b7 - 1))), f8, j, e.sub ⟨rfl, rfl, rfl, rfl, rfl, rfl, rfl, rfl, trivial⟩, hs⟩
           ··rcases bite j with ⟨b9, j⟩ | ⟨b9, j⟩
             ··refine At.condT rfl (decide_eq_true b9) ?_
               refine At.region (At.run 1 rfl (nT ?_)); exact fun a w e hs => d1 1 j a w (e.sub ⟨rfl, rfl, rfl, rfl, rfl, rfl, rfl, rfl, trivial⟩) hs
             ··refine At.condF rfl (decide_eq_false b9) ?_
               refine At.skip (At.thn ?_); exact fun a w e hs => d1 0 j a w (e.sub ⟨rfl, rfl, rfl, rfl, rfl, rfl, rfl, rfl, trivial⟩) hs
       ··rcases bite j with ⟨c4, j⟩ | ⟨c4, j⟩
         ··refine At.know (t := 32) rfl (nf (decide_eq_true c4)) ?_
           refine At.run 4 rfl ?_; exact At.of (d0 false j) ⟨rfl, rfl, rfl, rfl, rfl, rfl, rfl, rfl, rfl, trivial⟩
         ··refine At.know (t := 32) rfl (nt (decide_eq_false c4)) ?_
           refine At.run 1 rfl (At.y (Y.load rfl rfl .z rfl rfl rfl) rfl rfl rfl (At.run 2 rfl ?_)); exact At.of (d0 (!(decide ((gt (a0.take (p.length : Int).toNat) u).Kind = 11))) j) ⟨rfl, rfl, rfl, rfl, rfl, rfl, rfl, rfl, rfl, trivial⟩
   ··refine At.condF rfl (decide_eq_false b3) ?_
     refine At.exit ?_; refine At.the ?_; refine At.the ?_; exact fun a w e hs => d7 (x, L) (bdn j d6) a w (e.sub ⟨rfl, trivial⟩) hs

noncomputable def Q107.f (C : Int) (D : List (Bs × Q4)) (E : List (Q10 × Q4)) (G : List Q1) (I J : List Int) (x : List (Q2 × Int)) (p : List Q2) (L M : List Int) (N : List (List Int)) (q u : Int) : Option ((List (Q2 × Int)) × (List Q2) × Int) :=
 jn (
 if (mget x (⟨q, u⟩ : Q2)).isSome = true then
 some (.inl (x, p, ((mget x (⟨q, u⟩ : Q2)).getD (0 : Int))))
 else
 if (p.length + ([(⟨q, u⟩ : Q2)] : List Q2).length) * 16 ≤ 140737488355328 then
 some (.inl ((mset x (⟨q, u⟩ : Q2) (p.length : Int)), (p ++ ([(⟨q, u⟩ : Q2)] : List Q2)), (p.length : Int)))
 else none) (fun (s_ : (List (Q2 × Int)) × (List Q2) × Int) =>
 some (s_.1, s_.2.1, s_.2.2))
theorem Q107.callee : Callee Tryz.prog 49 := ⟨_, Tryz.func49, by kernel_rfl, by kernel_rfl⟩
theorem Q107.spec {N p q : Int} {J : List (Bs × Q4)} {L : List (Q10 × Q4)} {M : List Q1} {x C D E : List Int} {I : List (Q2 × Int)} {u : List Q2} {G : List (List Int)} (hr0_1 : RdS Q1.fl.rep R.heap A0_1 M) (hn0_1 : M.length = n0_1) (hc0_1 : n0_1 ≤ c0_1) (hn0_2 : x.length = n0_2) (hn0_3 : C.length = n0_3) (hn0_5 : u.length = n0_5) (hn0_6 : D.length = n0_6) (hn0_7 : E.length = n0_7) (hn0_8 : G.length = n0_8) {r : (List (Q2 × Int)) × (List Q2) × Int} (j : Q107.f N J L M x C I u D E G p q = some r) :
 Spec Tryz.prog 49 [bp b0, .agg #[i6 p, i6 q]] R (pc b0 [bp b0_0, .slice A0_1 n0_1 c0_1, .slice A0_2 n0_2 c0_2, .slice A0_3 n0_3 c0_3, .map (some b0_4), .slice A0_5 n0_5 c0_5, .slice A0_6 n0_6 c0_6, .slice A0_7 n0_7 c0_7, .slice A0_8 n0_8 c0_8] 101 :: pc b0_0 [i6 N, .map (some b0_0_1), .map (some b0_0_2)] 82 :: mapo Fl.bs.ov Q4.fl.av b0_0_1 J :: mapo Q10.fl.av Q4.fl.av b0_0_2 L :: row (Fl.int .u64) 28 A0_2 n0_2 c0_2 x :: row (Fl.int .i64) 3 A0_3 n0_3 c0_3 C :: mapo Q2.fl.av (Fl.int .i64).ov b0_4 I :: row Q2.fl 65 A0_5 n0_5 c0_5 u :: row (Fl.int .i64) 3 A0_6 n0_6 c0_6 D :: row (Fl.int .i64) 3 A0_7 n0_7 c0_7 E :: rows (Fl.int .i64) 3 39 A0_8 n0_8 c0_8 G :: Fr) (fun v l' => ∃ (O : Nat) (Z : Option Addr) (a0 : Nat), v = i6 r.2.2 ∧ pc b0 [bp b0_0, .slice A0_1 n0_1 c0_1, .slice A0_2 n0_2 c0_2, .slice A0_3 n0_3 c0_3, .map (some b0_4), .slice Z O a0, .slice A0_6 n0_6 c0_6, .slice A0_7 n0_7 c0_7, .slice A0_8 n0_8 c0_8] 101 :: pc b0_0 [i6 N, .map (some b0_0_1), .map (some b0_0_2)] 82 :: mapo Fl.bs.ov Q4.fl.av b0_0_1 J :: mapo Q10.fl.av Q4.fl.av b0_0_2 L :: row (Fl.int .u64) 28 A0_2 n0_2 c0_2 x :: row (Fl.int .i64) 3 A0_3 n0_3 c0_3 C :: mapo Q2.fl.av (Fl.int .i64).ov b0_4 r.1 :: row Q2.fl 65 Z O a0 r.2.1 :: row (Fl.int .i64) 3 A0_6 n0_6 c0_6 D :: row (Fl.int .i64) 3 A0_7 n0_7 c0_7 E :: rows (Fl.int .i64) 3 39 A0_8 n0_8 c0_8 G :: Fr = l' ∧ r.2.1.length = O) := by
 subst hn0_1; subst hn0_2; subst hn0_3; subst hn0_5; subst hn0_6; subst hn0_7; subst hn0_8; refine Spec.of Tryz.func49 rfl rfl ?_; unfold Q107.f at j; have j := brun j; refine At.seq (At.region ?_); refine At.box rfl rfl (cs := [i6 p, i6 q]) rfl rfl (fun U => ?_); refine At.run 1 rfl (nT (At.seq ?_)); refine At.quiet (by kernel_rfl) ?_; refine At.Quiet.run 3 rfl ?_; refine At.Quiet.y (Y.load rfl rfl (.s .z) rfl rfl rfl) rfl rfl rfl ?_; refine At.Quiet.y (Y.load rfl rfl .z rfl rfl rfl) rfl rfl rfl ?_; refine At.Quiet.y (Y.lookupOk (k := (⟨p, q⟩ : Q2)) (z := (0 : Int)) (.s (.s (.s (.s (.s (.s (.s .z))))))) rfl rfl Q2.keyok (by kernel_rfl) rfl rfl rfl) rfl rfl rfl ?_; refine At.Quiet.run 5 rfl (At.Quiet.nil (At.thn (At.seq (sR 2 rfl (At.nil ?_))))); refine At.thn ?_; obtain ⟨a5, a6, c4, j⟩ := bjoin j; let T9 : HProp := pc b0_0 [i6 N, .map (some b0_0_1), .map (some b0_0_2)] 82; refine At.join (X := (List (Q2 × Int)) × (List Q2) × Int × Nat × (Option Addr) × Nat) (fun s_ => [(5, i6 s_.2.2.1)]) (fun s_ => pc U [i6 p, i6 q] 65 :: pc b0 [bp b0_0, .slice A0_1 M.length c0_1, .slice A0_2 x.length c0_2, .slice A0_3 C.length c0_3, .map (some b0_4), .slice s_.2.2.2.2.1 s_.2.2.2.1 s_.2.2.2.2.2, .slice A0_6 D.length c0_6, .slice A0_7 E.length c0_7, .slice A0_8 G.length c0_8] 101 :: T9 :: mapo Fl.bs.ov Q4.fl.av b0_0_1 J :: mapo Q10.fl.av Q4.fl.av b0_0_2 L :: row (Fl.int .u64) 28 A0_2 x.length c0_2 x :: row (Fl.int .i64) 3 A0_3 C.length c0_3 C :: mapo Q2.fl.av (Fl.int .i64).ov b0_4 s_.1 :: row Q2.fl 65 s_.2.2.2.2.1 s_.2.2.2.1 s_.2.2.2.2.2 s_.2.1 :: row (Fl.int .i64) 3 A0_6 D.length c0_6 D :: row (Fl.int .i64) 3 A0_7 E.length c0_7 E :: rows (Fl.int .i64) 3 39 A0_8 G.length c0_8 G :: Fr) (fun s_ => a5 (.inl (s_.1, s_.2.1, s_.2.2.1)) = some r ∧ s_.2.1.length = s_.2.2.2.1) ?_ (fun a1 => ?_)
 ·rintro ⟨c5, a2, c6, a7, a8, a9⟩ ⟨j, b2⟩; obtain rfl : a2.length = a7 := b2; have j := (a6 _).symm.trans j
  ·refine sR 2 rfl (nT (At.ret (At.drop .z ?_))); obtain rfl := (bret j).symm; exact At.res (.inl rfl) rfl rfl ⟨a2.length, a8, a9, rfl, rfl, rfl⟩
 ··rcases bite j with ⟨V, j⟩ | ⟨V, j⟩
   ··refine At.condF rfl (nf V) ?_
     refine At.skip (At.thn ?_); exact fun a w e hs => a1 (I, u, ((mget I (⟨p, q⟩ : Q2)).getD (0 : Int)), u.length, A0_5, c0_5) ⟨j, rfl⟩ a w (e.sub ⟨rfl, trivial⟩) hs
   ··refine At.condT rfl (nt (bn V)) ?_
     refine sR 3 rfl (At.y (Y.load rfl rfl (.s .z) rfl rfl rfl) rfl rfl rfl (At.run 2 rfl (nT (At.seq ?_)))); refine At.still 6 (by kernel_rfl) ?_; refine At.Still.run 3 rfl ?_; refine At.Still.y (Y.load rfl rfl (.s .z) rfl rfl rfl) rfl rfl rfl ?_; refine At.Still.y (Y.load rfl rfl .z rfl rfl rfl) rfl rfl rfl ?_; refine At.Still.run 1 rfl ?_; refine At.Still.nil ?_; refine At.mapUpdate (k := (⟨p, q⟩ : Q2)) (v := (u.length : Int)) rfl (.s (.s (.s (.s (.s (.s (.s .z))))))) rfl rfl Q2.keyok rfl rfl rfl rfl rfl ?_; refine nT ?_; refine At.held [mapo Q2.fl.av (Fl.int .i64).ov b0_4 (mset I (⟨p, q⟩ : Q2) (u.length : Int)), pc U [i6 p, i6 q] 65, T9, mapo Fl.bs.ov Q4.fl.av b0_0_1 J, mapo Q10.fl.av Q4.fl.av b0_0_2 L, row (Fl.int .u64) 28 A0_2 x.length c0_2 x, row (Fl.int .i64) 3 A0_3 C.length c0_3 C, row (Fl.int .i64) 3 A0_6 D.length c0_6 D, row (Fl.int .i64) 3 A0_7 E.length c0_7 E, rows (Fl.int .i64) 3 39 A0_8 G.length c0_8 G] 11 rfl ?_; refine At.H.pw 0 rfl rfl rfl rfl rfl (.c .z (.c .z (.c (.s .z) (.c (.s .z) (.c (.s .z) (.c (.s .z) (.c (.s .z) (.c (.s (.s .z)) (.c (.s (.s .z)) (.c (.s (.s .z)) .n)))))))))) ?_; refine At.H.pw 1 rfl rfl rfl rfl rfl (.c .z (.c .z (.c (.s .z) (.c (.s .z) (.c (.s .z) (.c (.s .z) (.c (.s .z) (.c (.s (.s .z)) (.c (.s (.s .z)) (.c (.s (.s .z)) .n)))))))))) ?_; refine At.H.pw 2 rfl rfl rfl rfl rfl (.c .z (.c .z (.c (.s .z) (.c (.s .z) (.c (.s .z) (.c (.s .z) (.c (.s .z) (.c (.s (.s .z)) (.c (.s (.s .z)) (.c (.s (.s .z)) .n)))))))))) ?_; refine At.H.pw 3 rfl rfl rfl rfl rfl (.c .z (.c .z (.c (.s .z) (.c (.s .z) (.c (.s .z) (.c (.s .z) (.c (.s .z) (.c (.s (.s .z)) (.c (.s (.s .z)) (.c (.s (.s .z)) .n)))))))))) ?_; refine At.H.tw 5 rfl (Y.load rfl rfl (.s .z) rfl rfl rfl) rfl rfl rfl (.c .z (.c .z (.c (.s .z) (.c (.s .z) (.c (.s .z) (.c (.s .z) (.c (.s .z) (.c (.s (.s .z)) (.c (.s (.s .z)) (.c (.s (.s .z)) .n)))))))))) ?_; obtain ⟨a3, j⟩ := bnone j; let b3 : HProp := mapo Q2.fl.av (Fl.int .i64).ov b0_4 (mset I (⟨p, q⟩ : Q2) (u.length : Int)); refine At.H.joinK (X := (Option Addr) × Nat) (fun s_ => [(5, i6 (u.length : Int))]) (fun s_ => pc b0 [bp b0_0, .slice A0_1 M.length c0_1, .slice A0_2 x.length c0_2, .slice A0_3 C.length c0_3, .map (some b0_4), .slice s_.1 ((u ++ ([(⟨p, q⟩ : Q2)] : List Q2)).length) s_.2, .slice A0_6 D.length c0_6, .slice A0_7 E.length c0_7, .slice A0_8 G.length c0_8] 101 :: row Q2.fl 65 s_.1 ((u ++ ([(⟨p, q⟩ : Q2)] : List Q2)).length) s_.2 (u ++ ([(⟨p, q⟩ : Q2)] : List Q2)) :: b3 :: pc U [i6 p, i6 q] 65 :: T9 :: mapo Fl.bs.ov Q4.fl.av b0_0_1 J :: mapo Q10.fl.av Q4.fl.av b0_0_2 L :: row (Fl.int .u64) 28 A0_2 x.length c0_2 x :: row (Fl.int .i64) 3 A0_3 C.length c0_3 C :: row (Fl.int .i64) 3 A0_6 D.length c0_6 D :: row (Fl.int .i64) 3 A0_7 E.length c0_7 E :: rows (Fl.int .i64) 3 39 A0_8 G.length c0_8 G :: Fr) (fun s_ => True) ?_ (fun a4 => ?_)
     ·rintro ⟨b4, b5⟩ -
      ·refine At.thn (At.f11 (At.f11 (At.f11 (At.f4 (At.f5 (At.f11 (At.f11 ?_))))))); refine At.f11 (At.f11 (At.f11 (At.f10 (At.f11 ?_)))); exact fun a w e hs => a1 ((mset I (⟨p, q⟩ : Q2) (u.length : Int)), (u ++ ([(⟨p, q⟩ : Q2)] : List Q2)), (u.length : Int), (u ++ ([(⟨p, q⟩ : Q2)] : List Q2)).length, b4, b5) ⟨j, rfl⟩ a w (e.sub ⟨rfl, trivial⟩) hs
     ·refine At.H.al [4, 6] (Q7 ?_ (Q7 ?_ Q8))
      ··refine At.HO.op rfl ?_
        refine At.y (Y.load rfl rfl (.s (.s .z)) rfl rfl rfl) rfl rfl rfl ?_; refine At.HO.back (.c .z (.c .z (.c (.s .z) (.c (.s .z) (.c (.s .z) (.c (.s .z) (.c (.s .z) (.c (.s (.s .z)) (.c (.s (.s .z)) (.c (.s (.s .z)) .n)))))))))) ?_; refine At.H.al [6] (Q7 ?_ Q8)
        ··refine At.HO.op rfl ?_
          refine At.lit rfl (xo := [.tmp 34]) (ys := ([(⟨p, q⟩ : Q2)] : List Q2)) Q2.fl rfl rfl rfl rfl rfl rfl rfl rfl rfl rfl rfl (fun c7 c8 => ?_); refine At.HO.back (.c (.s .z) (.c (.s .z) (.c (.s (.s .z)) (.c (.s (.s .z)) (.c (.s (.s .z)) (.c (.s (.s .z)) (.c (.s (.s .z)) (.c (.s (.s (.s .z))) (.c (.s (.s (.s .z))) (.c (.s (.s (.s .z))) .n)))))))))) ?_; refine At.H.al [7] (Q7 ?_ Q8)
          ··refine At.HO.op rfl ?_
            refine At.append rfl (.s (.s (.s (.s (.s (.s (.s (.s (.s .z))))))))) (Src.own .z (by simp)) rfl rfl rfl rfl rfl rfl rfl rfl a3 (by decide) rfl (fun b6 b7 => ?_); refine At.drop (.s .z) ?_; refine At.HO.back (.c (.s .z) (.c (.s .z) (.c (.s (.s .z)) (.c (.s (.s .z)) (.c (.s (.s .z)) (.c (.s (.s .z)) (.c (.s (.s .z)) (.c (.s (.s .z)) (.c (.s (.s .z)) (.c (.s (.s .z)) .n)))))))))) ?_; refine At.H.pw 8 rfl rfl rfl rfl rfl (.c (.s .z) (.c (.s .z) (.c (.s (.s .z)) (.c (.s (.s .z)) (.c (.s (.s .z)) (.c (.s (.s .z)) (.c (.s (.s .z)) (.c (.s (.s .z)) (.c (.s (.s .z)) (.c (.s (.s .z)) .n)))))))))) ?_; refine At.H.pw 9 rfl rfl rfl rfl rfl (.c (.s .z) (.c (.s .z) (.c (.s (.s .z)) (.c (.s (.s .z)) (.c (.s (.s .z)) (.c (.s (.s .z)) (.c (.s (.s .z)) (.c (.s (.s .z)) (.c (.s (.s .z)) (.c (.s (.s .z)) .n)))))))))) ?_; refine At.H.al [10] (Q7 ?_ Q8)
            ··refine At.HO.op rfl ?_
              refine At.store rfl rfl rfl rfl (.s (.s (.s .z))) rfl rfl rfl (.s (.s (.s (.s (.s (.c .n)))))) ?_; refine At.HO.back (.c (.s (.s .z)) (.c (.s (.s .z)) (.c (.s (.s .z)) (.c (.s (.s .z)) (.c (.s (.s .z)) (.c (.s (.s .z)) (.c (.s (.s .z)) (.c (.s (.s .z)) (.c (.s (.s .z)) (.c (.s (.s .z)) .n)))))))))) ?_; refine At.H.done (by kernel_rfl) ?_; exact At.of (a4 (b6, b7) trivial) ⟨rfl, trivial⟩
      ··refine At.HO.op rfl ?_
        refine At.lit rfl (xo := [.tmp 34]) (ys := ([(⟨p, q⟩ : Q2)] : List Q2)) Q2.fl rfl rfl rfl rfl rfl rfl rfl rfl rfl rfl rfl (fun c9 d0 => ?_); refine At.HO.back (.c (.s .z) (.c (.s .z) (.c (.s (.s .z)) (.c (.s (.s .z)) (.c (.s (.s .z)) (.c (.s (.s .z)) (.c (.s (.s .z)) (.c (.s (.s (.s .z))) (.c (.s (.s (.s .z))) (.c (.s (.s (.s .z))) .n)))))))))) ?_; refine At.H.al [4] (Q7 ?_ Q8)
        ··refine At.HO.op rfl ?_
          refine At.y (Y.load rfl rfl (.s (.s (.s .z))) rfl rfl rfl) rfl rfl rfl ?_; refine At.HO.back (.c (.s .z) (.c (.s .z) (.c (.s (.s .z)) (.c (.s (.s .z)) (.c (.s (.s .z)) (.c (.s (.s .z)) (.c (.s (.s .z)) (.c (.s (.s (.s .z))) (.c (.s (.s (.s .z))) (.c (.s (.s (.s .z))) .n)))))))))) ?_; refine At.H.al [7] (Q7 ?_ Q8)
          ··refine At.HO.op rfl ?_
            refine At.append rfl (.s (.s (.s (.s (.s (.s (.s (.s (.s .z))))))))) (Src.own .z (by simp)) rfl rfl rfl rfl rfl rfl rfl rfl a3 (by decide) rfl (fun b8 b9 => ?_); refine At.drop (.s .z) ?_; refine At.HO.back (.c (.s .z) (.c (.s .z) (.c (.s (.s .z)) (.c (.s (.s .z)) (.c (.s (.s .z)) (.c (.s (.s .z)) (.c (.s (.s .z)) (.c (.s (.s .z)) (.c (.s (.s .z)) (.c (.s (.s .z)) .n)))))))))) ?_; refine At.H.pw 8 rfl rfl rfl rfl rfl (.c (.s .z) (.c (.s .z) (.c (.s (.s .z)) (.c (.s (.s .z)) (.c (.s (.s .z)) (.c (.s (.s .z)) (.c (.s (.s .z)) (.c (.s (.s .z)) (.c (.s (.s .z)) (.c (.s (.s .z)) .n)))))))))) ?_; refine At.H.pw 9 rfl rfl rfl rfl rfl (.c (.s .z) (.c (.s .z) (.c (.s (.s .z)) (.c (.s (.s .z)) (.c (.s (.s .z)) (.c (.s (.s .z)) (.c (.s (.s .z)) (.c (.s (.s .z)) (.c (.s (.s .z)) (.c (.s (.s .z)) .n)))))))))) ?_; refine At.H.al [10] (Q7 ?_ Q8)
            ··refine At.HO.op rfl ?_
              refine At.store rfl rfl rfl rfl (.s (.s (.s .z))) rfl rfl rfl (.s (.s (.s (.s (.s (.c .n)))))) ?_; refine At.HO.back (.c (.s (.s .z)) (.c (.s (.s .z)) (.c (.s (.s .z)) (.c (.s (.s .z)) (.c (.s (.s .z)) (.c (.s (.s .z)) (.c (.s (.s .z)) (.c (.s (.s .z)) (.c (.s (.s .z)) (.c (.s (.s .z)) .n)))))))))) ?_; refine At.H.done (by kernel_rfl) ?_; exact At.of (a4 (b8, b9) trivial) ⟨rfl, trivial⟩

noncomputable def Q30.l1b (a0 : List Int) (q : Int) (u : List Int) (x p : Int) : Option (((List Int) × Int × Int) ⊕ (((List Int) × Int) ⊕ ((Int) ⊕ ((Unit) ⊕ ((List Int)))))) :=
 if p < ((a0.length - q.toNat : Nat) : Int) then
 jn (
 if (0 : Int) ≤ p ∧ p < ((a0.length - q.toNat : Nat) : Int) then
 if (0 : Int) ≤ IntKind.i64.wrap (p - 1) ∧ IntKind.i64.wrap (p - 1) < ((a0.length - q.toNat : Nat) : Int) then
 if gt u (q + p) = gt u (q + IntKind.i64.wrap (p - 1)) then
 some (.inl (u, x))
 else
 if (0 : Int) ≤ x ∧ x < (a0.length : Int) then
 some (.inl ((st u x (gt u (q + p))), IntKind.i64.wrap (x + 1)))
 else none
 else none
 else none) (fun (s_ : (List Int) × Int) =>
 nx (s_.1, s_.2, IntKind.i64.wrap (p + 1)))
 else
 dn (.inl (u, x))
noncomputable def Q30.l1 (a0 : List Int) (p : Int) (q : List Int) (u x : Int) : Option (((List Int) × Int) ⊕ ((Int) ⊕ ((Unit) ⊕ ((List Int))))) := iter (fun t_ : (List Int) × Int × Int => Q30.l1b a0 p t_.1 t_.2.1 t_.2.2) (q, u, x)
noncomputable def Q30.l0b (a0 : List Int) (p : Int) : Option ((Int) ⊕ ((Unit) ⊕ ((List Int)))) :=
 if p < (a0.length : Int) then
 if (0 : Int) ≤ p ∧ p < (a0.length : Int) then
 if (0 : Int) ≤ IntKind.i64.wrap (p - 1) ∧ IntKind.i64.wrap (p - 1) < (a0.length : Int) then
 if gt a0 p = gt a0 (IntKind.i64.wrap (p - 1)) then
 if (0 : Int) ≤ p ∧ p ≤ (a0.length : Int) then
 jn (Q30.l1 a0 p a0 p 1) (fun (s_ : (List Int) × Int) =>
 if (0 : Int) ≤ s_.2 ∧ s_.2 ≤ (a0.length : Int) then
 upL (some ((s_.1.take s_.2.toNat ++ List.replicate (a0.length - s_.2.toNat) (0 : Int)).take s_.2.toNat))
 else none)
 else none
 else
 nx (IntKind.i64.wrap (p + 1))
 else none
 else none
 else
 dn (.inl ())
noncomputable def Q30.l0 (a0 : List Int) (p : Int) : Option ((Unit) ⊕ ((List Int))) := iter (fun t_ : Int => Q30.l0b a0 t_) p
noncomputable def Q30.f (a0 : List Int) : Option (List Int) :=
 if (a0.length : Int) < 2 then
 some a0
 else
 jn (Q30.l0 a0 1) (fun (_ : Unit) =>
 some a0)
theorem Q30.callee : Callee Tryz.prog 142 := ⟨_, Tryz.func142, by kernel_rfl, by kernel_rfl⟩
theorem Q30.spec {a0 : List Int} (hn0 : a0.length = n0) {r : (List Int)} (j : Q30.f a0 = some r) :
 Spec Tryz.prog 142 [.slice A0 n0 c0] R (row (Fl.int .i64) 3 A0 n0 c0 a0 :: Fr) (fun v l' => ∃ (O : Nat), v = .slice A0 O c0 ∧ row (Fl.int .i64) 3 A0 O c0 r :: Fr = l' ∧ r.length = O) := by
 subst hn0; refine Spec.of Tryz.func142 rfl rfl ?_; unfold Q30.f at j; have j := brun j; refine sR 1 rfl (nT (At.seq (At.seq (At.region ?_)))); refine At.run 3 rfl (nT ?_); rcases bite j with ⟨U, j⟩ | ⟨U, j⟩
 ··refine At.condT rfl (decide_eq_true U) ?_
   refine sR 2 rfl (nT (At.ret (At.thr ?_))); obtain rfl := (bret j).symm; exact At.res (.inl rfl) rfl rfl ⟨a0.length, rfl, rfl, rfl⟩
 ··refine At.condF rfl (decide_eq_false U) ?_
   refine At.skip (At.thn (At.seq (sR 1 rfl (nT ?_)))); refine At.block ?_; obtain ⟨b9, c4, c5, j⟩ := bjoin j; obtain ⟨V, Z, b3⟩ := bsome j; clear j; unfold Q30.l0 at Z; obtain ⟨a1, G⟩ := Q14.1 Z; clear Z; let b4 : HProp := row (Fl.int .i64) 3 A0 a0.length c0 a0; refine At.loopJ (X := Int) (Y := Unit) (e0 := 0) (fun p => [(0, .slice A0 a0.length c0), (3, i6 p)]) (fun p => b4 :: Fr) (fun m_ => fun p => iterN (fun t_ : Int => Q30.l0b a0 t_) m_ p = some V) a1 1 G (fun _ => [(0, .slice A0 a0.length c0)]) (fun _ => b4 :: Fr) (fun _ => b9 (.inl ()) = some r) (fun a w e hs => ⟨e.sub ⟨rfl, rfl, trivial⟩, (by exact hs)⟩) ?_ (fun c6 => ?_)
   ·rintro _ j; have j := (c4 _).symm.trans j
    ·refine At.ibx ?_; refine At.thn (sR 2 rfl (nT (At.ret ?_))); obtain rfl := (bret j).symm; exact At.res (.inl rfl) rfl rfl ⟨a0.length, rfl, rfl, rfl⟩
   ·clear G a1; rintro a1 p G; obtain ⟨c7, f_, c8, hf_, j⟩ := bit G; clear G; have j : (Q30.l0b a0 p).bind _ = some V := j; unfold Q30.l0b at j
    ·refine At.seq (sR 4 rfl (nT ?_)); rcases bite j with ⟨a2, j⟩ | ⟨a2, j⟩
     ··refine At.condT rfl (decide_eq_true a2) ?_
       refine At.skip (At.thn (At.seq ?_)); refine At.block ?_; refine At.seq ?_; refine At.quiet (by kernel_rfl) ?_; refine At.Quiet.run 2 rfl ?_; obtain ⟨L, j⟩ := bnone j; refine At.Quiet.y (Y.ix .z rfl rfl rfl rfl rfl rfl L.1 L.2) rfl rfl rfl ?_; refine At.Quiet.y (Y.ld .z (q := 0) rfl rfl L.1 L.2 rfl rfl rfl) rfl rfl rfl ?_; refine At.Quiet.run 3 rfl ?_; obtain ⟨M, j⟩ := bnone j; refine At.Quiet.y (Y.ix .z rfl rfl rfl rfl rfl rfl M.1 M.2) rfl rfl rfl ?_; refine At.Quiet.y (Y.ld .z (q := 0) rfl rfl M.1 M.2 rfl rfl rfl) rfl rfl rfl ?_; refine At.Quiet.run 1 rfl (At.Quiet.nil (At.thn ?_)); rcases bite j with ⟨a3, j⟩ | ⟨a3, j⟩
       ··refine At.condT rfl (decide_eq_true a3) ?_
         refine sR 2 rfl ?_; obtain ⟨x, j⟩ := bnone j; refine At.y (Y.slSuf .z rfl rfl rfl rfl rfl rfl x.1 x.2) rfl rfl rfl ?_; refine At.run 1 rfl (nT (At.seq (sR 1 rfl (At.nil ?_)))); refine At.thn ?_; refine At.block ?_; obtain ⟨c9, d0, e1, j⟩ := bjoin j; obtain ⟨a4, a5, d1⟩ := bsome j; clear j; unfold Q30.l1 at a5; obtain ⟨a6, I⟩ := Q14.1 a5; clear a5; refine At.loopJ (X := (List Int) × Int × Int) (Y := (List Int) × Int) (e0 := 2) (fun s_ => [(0, .slice A0 a0.length c0), (3, i6 s_.2.1), (4, .slice (sufA A0 c0 p.toNat (Fl.int .i64).sz) (a0.length - p.toNat) (c0 - p.toNat)), (5, i6 s_.2.2)]) (fun s_ => row (Fl.int .i64) 3 A0 a0.length c0 s_.1 :: Fr) (fun m_ => fun s_ => iterN (fun t_ : (List Int) × Int × Int => Q30.l1b a0 p t_.1 t_.2.1 t_.2.2) m_ (s_.1, s_.2.1, s_.2.2) = some a4) a6 (a0, p, 1) I (fun s_ => [(0, .slice A0 a0.length c0), (3, i6 s_.2)]) (fun s_ => row (Fl.int .i64) 3 A0 a0.length c0 s_.1 :: Fr) (fun s_ => c9 (.inl (s_.1, s_.2)) = some V) (fun a w e hs => ⟨e.sub ⟨rfl, rfl, rfl, rfl, trivial⟩, (by exact hs)⟩) ?_ (fun d2 => ?_)
         ·rintro ⟨d3, a7⟩ j; have j := (d0 _).symm.trans j
          ·refine At.ibx ?_; refine At.thn (sR 2 rfl ?_); obtain ⟨C, j⟩ := bnone j; refine At.y (Y.slSuf .z rfl rfl rfl rfl rfl rfl C.1 C.2) rfl rfl rfl ?_; refine At.clearSuf (z := (0 : Int)) rfl .z rfl rfl rfl rfl rfl C.1 C.2 ?_; refine nT (sR 2 rfl ?_); refine At.cut rfl .z rfl rfl rfl rfl rfl C.1 C.2 rfl ?_; refine At.run 1 rfl (nT (At.ret ?_)); refine At.ibr ?_; refine At.thr ?_; have j := bupL c5 b3 j; refine At.thr ?_; refine At.ibr ?_; refine At.thr ?_; cases bret j; exact At.res (.inl rfl) rfl rfl ⟨((d3.take a7.toNat ++ List.replicate (a0.length - a7.toNat) (0 : Int)).take a7.toNat).length, rfl, rfl, rfl⟩
         ·clear I a6; rintro a6 ⟨D, J, u⟩ I; obtain ⟨d4, f_, d5, hf_, j⟩ := bit I; clear I; have j : (Q30.l1b a0 p D J u).bind _ = some a4 := j; unfold Q30.l1b at j
          ·refine At.seq (sR 4 rfl (nT ?_)); rcases bite j with ⟨a8, j⟩ | ⟨a8, j⟩
           ··refine At.condT rfl (decide_eq_true a8) ?_
             refine At.skip (At.thn (At.seq ?_)); obtain ⟨d6, d7, e2, j⟩ := bjoin j; refine At.join (X := (List Int) × Int) (fun s_ => [(0, .slice A0 a0.length c0), (3, i6 s_.2), (4, .slice (sufA A0 c0 p.toNat (Fl.int .i64).sz) (a0.length - p.toNat) (c0 - p.toNat)), (5, i6 u)]) (fun s_ => row (Fl.int .i64) 3 A0 a0.length c0 s_.1 :: Fr) (fun s_ => d6 (.inl (s_.1, s_.2)) = some a4) ?_ (fun b5 => ?_)
             ·rintro ⟨d8, d9⟩ j; have j := (d7 _).symm.trans j
              ·refine At.region (At.run 3 rfl (At.nil ?_)); have j := bnx hf_ j; exact fun a w e hs => ⟨d4, (d8, d9, IntKind.i64.wrap (u + 1)), d5, j, e.sub ⟨rfl, rfl, rfl, rfl, trivial⟩, hs⟩
             ··refine At.block ?_
               refine At.seq ?_; refine At.quiet (by kernel_rfl) ?_; refine At.Quiet.run 2 rfl ?_; obtain ⟨E, j⟩ := bnone j; have b6 : (0 : Int) ≤ (p + u) ∧ (p + u) < (a0.length : Int) := by have h1_ := x; have h2_ := E; omega
               refine At.Quiet.y (Y.ixSuf .z rfl rfl rfl rfl rfl rfl x.1 E.1 E.2) rfl rfl rfl ?_; refine At.Quiet.y (Y.ld .z (q := 0) rfl rfl b6.1 b6.2 rfl rfl rfl) rfl rfl rfl ?_; refine At.Quiet.run 3 rfl ?_; obtain ⟨a9, j⟩ := bnone j; have b7 : (0 : Int) ≤ (p + IntKind.i64.wrap (u - 1)) ∧ (p + IntKind.i64.wrap (u - 1)) < (a0.length : Int) := by have h1_ := x; have h2_ := a9; omega
               refine At.Quiet.y (Y.ixSuf .z rfl rfl rfl rfl rfl rfl x.1 a9.1 a9.2) rfl rfl rfl ?_; refine At.Quiet.y (Y.ld .z (q := 0) rfl rfl b7.1 b7.2 rfl rfl rfl) rfl rfl rfl ?_; refine At.Quiet.run 1 rfl (At.Quiet.nil (At.thn ?_)); rcases bite j with ⟨b2, j⟩ | ⟨b2, j⟩
               ··refine At.condF rfl (nf (decide_eq_true b2)) ?_
                 refine At.skip ?_; refine At.ibn ?_; refine At.thn ?_; exact fun a w e hs => b5 (D, J) j a w (e.sub ⟨rfl, rfl, rfl, rfl, trivial⟩) hs
               ··refine At.condT rfl (nt (decide_eq_false b2)) ?_
                 refine sR 4 rfl ?_; have b8 : (0 : Int) ≤ (p + u) ∧ (p + u) < (a0.length : Int) := by have h1_ := x; have h2_ := E; omega
                 refine At.y (Y.ixSuf .z rfl rfl rfl rfl rfl rfl x.1 E.1 E.2) rfl rfl rfl ?_; refine At.y (Y.ld .z (q := 0) rfl rfl b8.1 b8.2 rfl rfl rfl) rfl rfl rfl ?_; obtain ⟨N, j⟩ := bnone j; refine At.y (Y.ix .z rfl rfl rfl rfl rfl rfl N.1 N.2) rfl rfl rfl ?_; refine At.st rfl .z (q := 0) (z := (gt D (p + u))) rfl rfl rfl N.1 N.2 rfl rfl (.c .n) ?_; refine nT (At.region (At.run 3 rfl (At.nil ?_))); refine At.ibn ?_; refine At.thn ?_; exact fun a w e hs => b5 ((st D J (gt D (p + u))), IntKind.i64.wrap (J + 1)) j a w (e.sub ⟨rfl, rfl, rfl, rfl, trivial⟩) hs
           ··refine At.condF rfl (decide_eq_false a8) ?_
             refine At.exit ?_; refine At.the ?_; refine At.the ?_; exact fun a w e hs => d2 (D, J) (bdn j d1) a w (e.sub ⟨rfl, rfl, trivial⟩) hs
       ··refine At.condF rfl (decide_eq_false a3) ?_
         refine At.skip ?_; refine At.ibn ?_; refine At.thn (At.region (At.run 3 rfl (At.nil ?_))); have j := bnx hf_ j; exact fun a w e hs => ⟨c7, (IntKind.i64.wrap (p + 1)), c8, j, e.sub ⟨rfl, rfl, trivial⟩, hs⟩
     ··refine At.condF rfl (decide_eq_false a2) ?_
       refine At.exit ?_; refine At.the ?_; refine At.the ?_; exact fun a w e hs => c6 () (bdn j b3) a w (e.sub ⟨rfl, trivial⟩) hs

noncomputable def Q19.l0b (D : Int) (E : List (Bs × Q4)) (G : List (Q10 × Q4)) (I : List Q1) (J L M N : List Int) (O : List (List Int)) (a3 : List Q2) (u : List Int) (x : List (Q2 × Int)) (C : List Q2) (p : Int) : Option (((List Int) × (List (Q2 × Int)) × (List Q2) × Int) ⊕ (((List Int) × (List (Q2 × Int)) × (List Q2)) ⊕ ((List (List Int)) × (List Int) × (List Int) × (List (Q2 × Int)) × (List Q2)))) :=
 if p < (a3.length : Int) then
 if (0 : Int) ≤ p ∧ p < (a3.length : Int) then
 (Q107.f D E G I J L x C M N O ((gt a3 p).State) ((gt a3 p).Node)).bind fun q =>
 if (u.length + ([q.2.2] : List Int).length) * 8 ≤ 140737488355328 then
 nx ((u ++ ([q.2.2] : List Int)), q.1, q.2.1, IntKind.i64.wrap (p + 1))
 else none
 else none
 else
 dn (.inl (u, x, C))
noncomputable def Q19.l0 (p : Int) (q : List (Bs × Q4)) (u : List (Q10 × Q4)) (x : List Q1) (C D E G : List Int) (I : List (List Int)) (a3 : List Q2) (J : List Int) (L : List (Q2 × Int)) (M : List Q2) (N : Int) : Option (((List Int) × (List (Q2 × Int)) × (List Q2)) ⊕ ((List (List Int)) × (List Int) × (List Int) × (List (Q2 × Int)) × (List Q2))) := iter (fun t_ : (List Int) × (List (Q2 × Int)) × (List Q2) × Int => Q19.l0b p q u x C D E G I a3 t_.1 t_.2.1 t_.2.2.1 t_.2.2.2) (J, L, M, N)
noncomputable def Q19.f (x : Int) (C : List (Bs × Q4)) (D : List (Q10 × Q4)) (E : List Q1) (G I : List Int) (J : List (Q2 × Int)) (L : List Q2) (p q : List Int) (u : List (List Int)) (a1 a2 : Int) (a3 : List Q2) : Option ((List (List Int)) × (List Int) × (List Int) × (List (Q2 × Int)) × (List Q2)) :=
 jn (Q19.l0 x C D E G I p q u a3 ([] : List Int) J L 0) (fun (s_ : (List Int) × (List (Q2 × Int)) × (List Q2)) =>
 (Q49.f s_.1).bind fun M =>
 if (p.length + ([a1] : List Int).length) * 8 ≤ 140737488355328 then
 if (q.length + ([a2] : List Int).length) * 8 ≤ 140737488355328 then
 (Q30.f M).bind fun N =>
 if (u.length + 1) * 24 ≤ 140737488355328 then
 some ((u ++ [N]), (q ++ ([a2] : List Int)), (p ++ ([a1] : List Int)), s_.2.1, s_.2.2)
 else none
 else none
 else none)
theorem Q19.callee : Callee Tryz.prog 105 := ⟨_, Tryz.func105, by kernel_rfl, by kernel_rfl⟩
theorem Q19.spec {J a1 a2 : Int} {L : List (Bs × Q4)} {M : List (Q10 × Q4)} {E : List Q1} {C D p u : List Int} {b7 : List (Q2 × Int)} {U a3 : List Q2} {x : List (List Int)} (hr0_1 : RdS Q1.fl.rep R.heap A0_1 E) (hn0_1 : E.length = n0_1) (hc0_1 : n0_1 ≤ c0_1) (hn0_2 : C.length = n0_2) (hn0_3 : D.length = n0_3) (hn0_5 : U.length = n0_5) (hn0_6 : p.length = n0_6) (hn0_7 : u.length = n0_7) (hn0_8 : x.length = n0_8) (hr3 : RdS Q2.fl.rep R.heap A3 a3) (hn3 : a3.length = n3) (hc3 : n3 ≤ c3) {r : (List (List Int)) × (List Int) × (List Int) × (List (Q2 × Int)) × (List Q2)} (j : Q19.f J L M E C D b7 U p u x a1 a2 a3 = some r) :
 Spec Tryz.prog 105 [bp b0, i6 a1, i6 a2, .slice A3 n3 c3] R (pc b0 [bp b0_0, .slice A0_1 n0_1 c0_1, .slice A0_2 n0_2 c0_2, .slice A0_3 n0_3 c0_3, .map (some b0_4), .slice A0_5 n0_5 c0_5, .slice A0_6 n0_6 c0_6, .slice A0_7 n0_7 c0_7, .slice A0_8 n0_8 c0_8] 101 :: pc b0_0 [i6 J, .map (some b0_0_1), .map (some b0_0_2)] 82 :: mapo Fl.bs.ov Q4.fl.av b0_0_1 L :: mapo Q10.fl.av Q4.fl.av b0_0_2 M :: row (Fl.int .u64) 28 A0_2 n0_2 c0_2 C :: row (Fl.int .i64) 3 A0_3 n0_3 c0_3 D :: mapo Q2.fl.av (Fl.int .i64).ov b0_4 b7 :: row Q2.fl 65 A0_5 n0_5 c0_5 U :: row (Fl.int .i64) 3 A0_6 n0_6 c0_6 p :: row (Fl.int .i64) 3 A0_7 n0_7 c0_7 u :: rows (Fl.int .i64) 3 39 A0_8 n0_8 c0_8 x :: Fr) (fun v l' => ∃ (b8 : Nat) (d1 : Option Addr) (d2 : Nat) (d3 : Option Addr) (d4 : Nat) (d5 : Option Addr) (d6 : Nat) (b9 : Nat) (d7 : Option Addr) (d9 : Nat), v = .tuple #[] ∧ pc b0 [bp b0_0, .slice A0_1 n0_1 c0_1, .slice A0_2 n0_2 c0_2, .slice A0_3 n0_3 c0_3, .map (some b0_4), .slice d7 b9 d9, .slice d5 ((p ++ ([a1] : List Int)).length) d6, .slice d3 ((u ++ ([a2] : List Int)).length) d4, .slice d1 b8 d2] 101 :: pc b0_0 [i6 J, .map (some b0_0_1), .map (some b0_0_2)] 82 :: mapo Fl.bs.ov Q4.fl.av b0_0_1 L :: mapo Q10.fl.av Q4.fl.av b0_0_2 M :: row (Fl.int .u64) 28 A0_2 n0_2 c0_2 C :: row (Fl.int .i64) 3 A0_3 n0_3 c0_3 D :: mapo Q2.fl.av (Fl.int .i64).ov b0_4 r.2.2.2.1 :: row Q2.fl 65 d7 b9 d9 r.2.2.2.2 :: row (Fl.int .i64) 3 d5 ((p ++ ([a1] : List Int)).length) d6 r.2.2.1 :: row (Fl.int .i64) 3 d3 ((u ++ ([a2] : List Int)).length) d4 r.2.1 :: rows (Fl.int .i64) 3 39 d1 b8 d2 r.1 :: Fr = l' ∧ r.1.length = b8 ∧ r.2.2.2.2.length = b9) := by
 subst hn0_1; subst hn0_2; subst hn0_3; subst hn0_5; subst hn0_6; subst hn0_7; subst hn0_8; subst hn3; refine Spec.of Tryz.func105 rfl rfl ?_; unfold Q19.f at j; have j := brun j; refine sR 1 rfl (nT (At.seq (At.seq (At.region ?_)))); refine At.run 3 rfl (nT ?_); refine At.block ?_; obtain ⟨e9, f0, l7, j⟩ := bjoin j; obtain ⟨e1, c4, f4⟩ := bsome j; clear j; unfold Q19.l0 at c4; obtain ⟨c5, V⟩ := Q14.1 c4; clear c4; refine At.nilRow (Fl.int .i64) 3 ?_; let Z : HProp := pc b0_0 [i6 J, .map (some b0_0_1), .map (some b0_0_2)] 82; let a0 : HProp := mapo Fl.bs.ov Q4.fl.av b0_0_1 L; let a4 : HProp := mapo Q10.fl.av Q4.fl.av b0_0_2 M; let a5 : HProp := row (Fl.int .u64) 28 A0_2 C.length c0_2 C; let a6 : HProp := row (Fl.int .i64) 3 A0_3 D.length c0_3 D; let e2 : HProp := row (Fl.int .i64) 3 A0_6 p.length c0_6 p; let e3 : HProp := row (Fl.int .i64) 3 A0_7 u.length c0_7 u; let e4 : HProp := rows (Fl.int .i64) 3 39 A0_8 x.length c0_8 x; refine At.loopJ (X := (List Int) × (List (Q2 × Int)) × (List Q2) × Int × Nat × (Option Addr) × Nat × Nat × (Option Addr) × Nat) (Y := (List Int) × (List (Q2 × Int)) × (List Q2) × Nat × (Option Addr) × Nat × Nat × (Option Addr) × Nat) (e0 := 0) (fun s_ => [(0, bp b0), (1, i6 a1), (2, i6 a2), (8, .slice s_.2.2.2.2.2.1 s_.2.2.2.2.1 s_.2.2.2.2.2.2.1), (11, .slice A3 a3.length c3), (12, i6 (a3.length : Int)), (13, i6 s_.2.2.2.1)]) (fun s_ => row (Fl.int .i64) 3 s_.2.2.2.2.2.1 s_.2.2.2.2.1 s_.2.2.2.2.2.2.1 s_.1 :: pc b0 [bp b0_0, .slice A0_1 E.length c0_1, .slice A0_2 C.length c0_2, .slice A0_3 D.length c0_3, .map (some b0_4), .slice (d8 s_).1 s_.2.2.2.2.2.2.2.1 (d8 s_).2, .slice A0_6 p.length c0_6, .slice A0_7 u.length c0_7, .slice A0_8 x.length c0_8] 101 :: Z :: a0 :: a4 :: a5 :: a6 :: mapo Q2.fl.av (Fl.int .i64).ov b0_4 s_.2.1 :: row Q2.fl 65 (d8 s_).1 s_.2.2.2.2.2.2.2.1 (d8 s_).2 s_.2.2.1 :: e2 :: e3 :: e4 :: Fr) (fun m_ => fun s_ => iterN (fun t_ : (List Int) × (List (Q2 × Int)) × (List Q2) × Int => Q19.l0b J L M E C D p u x a3 t_.1 t_.2.1 t_.2.2.1 t_.2.2.2) m_ (s_.1, s_.2.1, s_.2.2.1, s_.2.2.2.1) = some e1 ∧ s_.1.length = s_.2.2.2.2.1 ∧ s_.2.2.1.length = s_.2.2.2.2.2.2.2.1) c5 (([] : List Int), b7, U, 0, 0, none, 0, U.length, A0_5, c0_5) ⟨V, rfl, rfl⟩ (fun s_ => [(0, bp b0), (1, i6 a1), (2, i6 a2), (8, .slice s_.2.2.2.2.1 s_.2.2.2.1 s_.2.2.2.2.2.1)]) (fun s_ => row (Fl.int .i64) 3 s_.2.2.2.2.1 s_.2.2.2.1 s_.2.2.2.2.2.1 s_.1 :: pc b0 [bp b0_0, .slice A0_1 E.length c0_1, .slice A0_2 C.length c0_2, .slice A0_3 D.length c0_3, .map (some b0_4), .slice s_.2.2.2.2.2.2.2.1 s_.2.2.2.2.2.2.1 (d8 s_), .slice A0_6 p.length c0_6, .slice A0_7 u.length c0_7, .slice A0_8 x.length c0_8] 101 :: Z :: a0 :: a4 :: a5 :: a6 :: mapo Q2.fl.av (Fl.int .i64).ov b0_4 s_.2.1 :: row Q2.fl 65 s_.2.2.2.2.2.2.2.1 s_.2.2.2.2.2.2.1 (d8 s_) s_.2.2.1 :: e2 :: e3 :: e4 :: Fr) (fun s_ => e9 (.inl (s_.1, s_.2.1, s_.2.2.1)) = some r ∧ s_.1.length = s_.2.2.2.1 ∧ s_.2.2.1.length = s_.2.2.2.2.2.2.1) (fun a w e hs => ⟨e.sub ⟨rfl, rfl, rfl, rfl, rfl, rfl, rfl, trivial⟩, (by exact hs)⟩) ?_ (fun f5 => ?_)
 ·rintro ⟨f6, e5, G, f7, c6, c7, f8, a7, a8⟩ ⟨j, f9, g0⟩; obtain rfl : f6.length = f7 := f9; obtain rfl : G.length = f8 := g0; have j := (f0 _).symm.trans j
  ·refine At.ibx ?_; refine At.thn (sR 1 rfl ?_); obtain ⟨l8, g1, j⟩ := bbind j; refine At.call rfl Q49.callee rfl rfl rfl (Q49.spec rfl g1) ?_; rintro _ _ ⟨rfl, rfl⟩; refine nT (sR 5 rfl (At.y (Y.load rfl rfl (.s .z) rfl rfl rfl) rfl rfl rfl (At.run 1 rfl ?_))); refine At.lit rfl (xo := [.tmp 32]) (ys := ([a1] : List Int)) (Fl.int .i64) rfl rfl rfl rfl rfl rfl rfl rfl rfl rfl rfl (fun l9 m0 => ?_); obtain ⟨g2, j⟩ := bnone j; refine At.append rfl (.s (.s (.s (.s (.s (.s (.s (.s (.s (.s .z)))))))))) (Src.own .z (by simp)) rfl rfl rfl rfl rfl rfl rfl rfl g2 (by decide) rfl (fun a9 b2 => ?_); refine At.drop (.s .z) (At.run 3 rfl ?_); refine At.store rfl rfl rfl rfl (.s (.s .z)) rfl rfl rfl (.s (.s (.s (.s (.s (.s (.c .n))))))) ?_; refine nT (sR 5 rfl (At.y (Y.load rfl rfl .z rfl rfl rfl) rfl rfl rfl (At.run 1 rfl ?_))); refine At.lit rfl (xo := [.tmp 44]) (ys := ([a2] : List Int)) (Fl.int .i64) rfl rfl rfl rfl rfl rfl rfl rfl rfl rfl rfl (fun m1 m2 => ?_); obtain ⟨g3, j⟩ := bnone j; refine At.append rfl (.s (.s (.s (.s (.s (.s (.s (.s (.s (.s (.s .z))))))))))) (Src.own .z (by simp)) rfl rfl rfl rfl rfl rfl rfl rfl g3 (by decide) rfl (fun b3 b4 => ?_); refine At.drop (.s .z) (At.run 3 rfl ?_); refine At.store rfl rfl rfl rfl (.s .z) rfl rfl rfl (.s (.s (.s (.s (.s (.s (.s (.c .n)))))))) ?_; refine nT ?_; refine At.held [row (Fl.int .i64) 3 b3 ((u ++ ([a2] : List Int)).length) b4 (u ++ ([a2] : List Int)), row (Fl.int .i64) 3 a9 ((p ++ ([a1] : List Int)).length) b2 (p ++ ([a1] : List Int)), Z, a0, a4, a5, a6, mapo Q2.fl.av (Fl.int .i64).ov b0_4 e5, row Q2.fl 65 a7 G.length a8 G] 14 rfl ?_; refine At.H.pw 0 rfl rfl rfl rfl rfl (.c (.s .z) (.c (.s .z) (.c (.s (.s .z)) (.c (.s (.s .z)) (.c (.s (.s .z)) (.c (.s (.s .z)) (.c (.s (.s .z)) (.c (.s (.s .z)) (.c (.s (.s .z)) .n))))))))) ?_; refine At.H.pw 1 rfl rfl rfl rfl rfl (.c (.s .z) (.c (.s .z) (.c (.s (.s .z)) (.c (.s (.s .z)) (.c (.s (.s .z)) (.c (.s (.s .z)) (.c (.s (.s .z)) (.c (.s (.s .z)) (.c (.s (.s .z)) .n))))))))) ?_; refine At.H.pw 2 rfl rfl rfl rfl rfl (.c (.s .z) (.c (.s .z) (.c (.s (.s .z)) (.c (.s (.s .z)) (.c (.s (.s .z)) (.c (.s (.s .z)) (.c (.s (.s .z)) (.c (.s (.s .z)) (.c (.s (.s .z)) .n))))))))) ?_; refine At.H.pw 3 rfl rfl rfl rfl rfl (.c (.s .z) (.c (.s .z) (.c (.s (.s .z)) (.c (.s (.s .z)) (.c (.s (.s .z)) (.c (.s (.s .z)) (.c (.s (.s .z)) (.c (.s (.s .z)) (.c (.s (.s .z)) .n))))))))) ?_; refine At.H.pw 4 rfl rfl rfl rfl rfl (.c (.s .z) (.c (.s .z) (.c (.s (.s .z)) (.c (.s (.s .z)) (.c (.s (.s .z)) (.c (.s (.s .z)) (.c (.s (.s .z)) (.c (.s (.s .z)) (.c (.s (.s .z)) .n))))))))) ?_; refine At.H.pw 6 rfl rfl rfl rfl rfl (.c (.s .z) (.c (.s .z) (.c (.s (.s .z)) (.c (.s (.s .z)) (.c (.s (.s .z)) (.c (.s (.s .z)) (.c (.s (.s .z)) (.c (.s (.s .z)) (.c (.s (.s .z)) .n))))))))) ?_; obtain ⟨I, e6, j⟩ := bbind j; obtain ⟨c8, j⟩ := bnone j; let g4 : HProp := row (Fl.int .i64) 3 b3 ((u ++ ([a2] : List Int)).length) b4 (u ++ ([a2] : List Int)); let g5 : HProp := row (Fl.int .i64) 3 a9 ((p ++ ([a1] : List Int)).length) b2 (p ++ ([a1] : List Int)); refine At.H.joinK (X := (Option Addr) × Nat) (fun s_ => []) (fun s_ => pc b0 [bp b0_0, .slice A0_1 E.length c0_1, .slice A0_2 C.length c0_2, .slice A0_3 D.length c0_3, .map (some b0_4), .slice a7 G.length a8, .slice a9 ((p ++ ([a1] : List Int)).length) b2, .slice b3 ((u ++ ([a2] : List Int)).length) b4, .slice s_.1 ((x ++ [I]).length) s_.2] 101 :: rows (Fl.int .i64) 3 39 s_.1 ((x ++ [I]).length) s_.2 (x ++ [I]) :: g4 :: g5 :: Z :: a0 :: a4 :: a5 :: a6 :: mapo Q2.fl.av (Fl.int .i64).ov b0_4 e5 :: row Q2.fl 65 a7 G.length a8 G :: Fr) (fun s_ => True) ?_ (fun c9 => ?_)
   ·rintro ⟨g6, g7⟩ -
    ·refine At.f1 (At.f2 (At.f3 (At.f10 (At.f10 (At.f10 (At.f10 (At.f10 ?_))))))); refine At.f10 (At.f10 (At.f10 ?_)); cases bret j; exact At.res (.inr rfl) rfl rfl ⟨(x ++ [I]).length, g6, g7, b3, b4, a9, b2, G.length, a7, a8, rfl, rfl, rfl, rfl⟩
   ·refine At.H.al [5, 7] (Q7 ?_ (Q7 ?_ Q8))
    ··refine At.HO.op rfl ?_
      refine At.y (Y.load rfl rfl .z rfl rfl rfl) rfl rfl rfl ?_; refine At.HO.back (.c (.s .z) (.c (.s .z) (.c (.s (.s .z)) (.c (.s (.s .z)) (.c (.s (.s .z)) (.c (.s (.s .z)) (.c (.s (.s .z)) (.c (.s (.s .z)) (.c (.s (.s .z)) .n))))))))) ?_; refine At.H.al [7] (Q7 ?_ Q8)
      ··refine At.HO.op rfl ?_
        refine At.rowLen (.s (.s (.s .z))) fun g8 => ?_; refine At.f3 ?_; refine At.call rfl Q30.callee rfl rfl rfl (Q30.spec g8 e6) ?_; rintro _ _ ⟨m3, rfl, rfl, rfl⟩; refine At.HO.back (.c (.s (.s .z)) (.c (.s (.s .z)) (.c (.s (.s .z)) (.c (.s (.s .z)) (.c (.s (.s .z)) (.c (.s (.s .z)) (.c (.s (.s .z)) (.c (.s (.s .z)) (.c (.s (.s .z)) .n))))))))) ?_; refine At.H.al [8] (Q7 ?_ Q8)
        ··refine At.HO.op rfl ?_
          refine At.litV rfl (xo := [.tmp 57]) (vs := [.slice c6 I.length c7]) rfl rfl rfl rfl rfl rfl rfl rfl rfl rfl rfl (fun m4 m5 => ?_); refine At.HO.back (.c (.s (.s (.s .z))) (.c (.s (.s (.s .z))) (.c (.s (.s (.s .z))) (.c (.s (.s (.s .z))) (.c (.s (.s (.s .z))) (.c (.s (.s (.s .z))) (.c (.s (.s (.s .z))) (.c (.s (.s (.s .z))) (.c (.s (.s (.s .z))) .n))))))))) ?_; refine At.H.al [9] (Q7 ?_ Q8)
          ··refine At.HO.op rfl ?_
            refine At.appendRow rfl (.s (.s (.s (.s (.s (.s (.s (.s (.s (.s (.s (.s .z)))))))))))) .z .z rfl rfl rfl rfl rfl rfl rfl rfl c8 (by decide) rfl (fun g9 h0 => ?_); refine At.HO.back (.c (.s (.s .z)) (.c (.s (.s .z)) (.c (.s (.s .z)) (.c (.s (.s .z)) (.c (.s (.s .z)) (.c (.s (.s .z)) (.c (.s (.s .z)) (.c (.s (.s .z)) (.c (.s (.s .z)) .n))))))))) ?_; refine At.H.pw 10 rfl rfl rfl rfl rfl (.c (.s (.s .z)) (.c (.s (.s .z)) (.c (.s (.s .z)) (.c (.s (.s .z)) (.c (.s (.s .z)) (.c (.s (.s .z)) (.c (.s (.s .z)) (.c (.s (.s .z)) (.c (.s (.s .z)) .n))))))))) ?_; refine At.H.pw 11 rfl rfl rfl rfl rfl (.c (.s (.s .z)) (.c (.s (.s .z)) (.c (.s (.s .z)) (.c (.s (.s .z)) (.c (.s (.s .z)) (.c (.s (.s .z)) (.c (.s (.s .z)) (.c (.s (.s .z)) (.c (.s (.s .z)) .n))))))))) ?_; refine At.H.pw 12 rfl rfl rfl rfl rfl (.c (.s (.s .z)) (.c (.s (.s .z)) (.c (.s (.s .z)) (.c (.s (.s .z)) (.c (.s (.s .z)) (.c (.s (.s .z)) (.c (.s (.s .z)) (.c (.s (.s .z)) (.c (.s (.s .z)) .n))))))))) ?_; refine At.H.al [13] (Q7 ?_ Q8)
            ··refine At.HO.op rfl ?_
              refine At.store rfl rfl rfl rfl (.s .z) rfl rfl rfl (.s (.s (.s (.s (.s (.s (.s (.s (.c .n))))))))) ?_; refine At.HO.back (.c (.s (.s .z)) (.c (.s (.s .z)) (.c (.s (.s .z)) (.c (.s (.s .z)) (.c (.s (.s .z)) (.c (.s (.s .z)) (.c (.s (.s .z)) (.c (.s (.s .z)) (.c (.s (.s .z)) .n))))))))) ?_; refine At.H.done (by kernel_rfl) ?_; exact At.of (c9 (g9, h0) trivial) trivial
    ··refine At.HO.op rfl ?_
      refine At.rowLen (.s (.s (.s .z))) fun h1 => ?_; refine At.f3 ?_; refine At.call rfl Q30.callee rfl rfl rfl (Q30.spec h1 e6) ?_; rintro _ _ ⟨m6, rfl, rfl, rfl⟩; refine At.HO.back (.c (.s (.s .z)) (.c (.s (.s .z)) (.c (.s (.s .z)) (.c (.s (.s .z)) (.c (.s (.s .z)) (.c (.s (.s .z)) (.c (.s (.s .z)) (.c (.s (.s .z)) (.c (.s (.s .z)) .n))))))))) ?_; refine At.H.al [5, 8] (Q7 ?_ (Q7 ?_ Q8))
      ··refine At.HO.op rfl ?_
        refine At.y (Y.load rfl rfl (.s .z) rfl rfl rfl) rfl rfl rfl ?_; refine At.HO.back (.c (.s (.s .z)) (.c (.s (.s .z)) (.c (.s (.s .z)) (.c (.s (.s .z)) (.c (.s (.s .z)) (.c (.s (.s .z)) (.c (.s (.s .z)) (.c (.s (.s .z)) (.c (.s (.s .z)) .n))))))))) ?_; refine At.H.al [8] (Q7 ?_ Q8)
        ··refine At.HO.op rfl ?_
          refine At.litV rfl (xo := [.tmp 57]) (vs := [.slice c6 I.length c7]) rfl rfl rfl rfl rfl rfl rfl rfl rfl rfl rfl (fun m7 m8 => ?_); refine At.HO.back (.c (.s (.s (.s .z))) (.c (.s (.s (.s .z))) (.c (.s (.s (.s .z))) (.c (.s (.s (.s .z))) (.c (.s (.s (.s .z))) (.c (.s (.s (.s .z))) (.c (.s (.s (.s .z))) (.c (.s (.s (.s .z))) (.c (.s (.s (.s .z))) .n))))))))) ?_; refine At.H.al [9] (Q7 ?_ Q8)
          ··refine At.HO.op rfl ?_
            refine At.appendRow rfl (.s (.s (.s (.s (.s (.s (.s (.s (.s (.s (.s (.s .z)))))))))))) .z .z rfl rfl rfl rfl rfl rfl rfl rfl c8 (by decide) rfl (fun h2 h3 => ?_); refine At.HO.back (.c (.s (.s .z)) (.c (.s (.s .z)) (.c (.s (.s .z)) (.c (.s (.s .z)) (.c (.s (.s .z)) (.c (.s (.s .z)) (.c (.s (.s .z)) (.c (.s (.s .z)) (.c (.s (.s .z)) .n))))))))) ?_; refine At.H.pw 10 rfl rfl rfl rfl rfl (.c (.s (.s .z)) (.c (.s (.s .z)) (.c (.s (.s .z)) (.c (.s (.s .z)) (.c (.s (.s .z)) (.c (.s (.s .z)) (.c (.s (.s .z)) (.c (.s (.s .z)) (.c (.s (.s .z)) .n))))))))) ?_; refine At.H.pw 11 rfl rfl rfl rfl rfl (.c (.s (.s .z)) (.c (.s (.s .z)) (.c (.s (.s .z)) (.c (.s (.s .z)) (.c (.s (.s .z)) (.c (.s (.s .z)) (.c (.s (.s .z)) (.c (.s (.s .z)) (.c (.s (.s .z)) .n))))))))) ?_; refine At.H.pw 12 rfl rfl rfl rfl rfl (.c (.s (.s .z)) (.c (.s (.s .z)) (.c (.s (.s .z)) (.c (.s (.s .z)) (.c (.s (.s .z)) (.c (.s (.s .z)) (.c (.s (.s .z)) (.c (.s (.s .z)) (.c (.s (.s .z)) .n))))))))) ?_; refine At.H.al [13] (Q7 ?_ Q8)
            ··refine At.HO.op rfl ?_
              refine At.store rfl rfl rfl rfl (.s .z) rfl rfl rfl (.s (.s (.s (.s (.s (.s (.s (.s (.c .n))))))))) ?_; refine At.HO.back (.c (.s (.s .z)) (.c (.s (.s .z)) (.c (.s (.s .z)) (.c (.s (.s .z)) (.c (.s (.s .z)) (.c (.s (.s .z)) (.c (.s (.s .z)) (.c (.s (.s .z)) (.c (.s (.s .z)) .n))))))))) ?_; refine At.H.done (by kernel_rfl) ?_; exact At.of (c9 (h2, h3) trivial) trivial
      ··refine At.HO.op rfl ?_
        refine At.litV rfl (xo := [.tmp 57]) (vs := [.slice c6 I.length c7]) rfl rfl rfl rfl rfl rfl rfl rfl rfl rfl rfl (fun m9 n2 => ?_); refine At.HO.back (.c (.s (.s (.s .z))) (.c (.s (.s (.s .z))) (.c (.s (.s (.s .z))) (.c (.s (.s (.s .z))) (.c (.s (.s (.s .z))) (.c (.s (.s (.s .z))) (.c (.s (.s (.s .z))) (.c (.s (.s (.s .z))) (.c (.s (.s (.s .z))) .n))))))))) ?_; refine At.H.al [5] (Q7 ?_ Q8)
        ··refine At.HO.op rfl ?_
          refine At.y (Y.load rfl rfl (.s (.s .z)) rfl rfl rfl) rfl rfl rfl ?_; refine At.HO.back (.c (.s (.s (.s .z))) (.c (.s (.s (.s .z))) (.c (.s (.s (.s .z))) (.c (.s (.s (.s .z))) (.c (.s (.s (.s .z))) (.c (.s (.s (.s .z))) (.c (.s (.s (.s .z))) (.c (.s (.s (.s .z))) (.c (.s (.s (.s .z))) .n))))))))) ?_; refine At.H.al [9] (Q7 ?_ Q8)
          ··refine At.HO.op rfl ?_
            refine At.appendRow rfl (.s (.s (.s (.s (.s (.s (.s (.s (.s (.s (.s (.s .z)))))))))))) .z .z rfl rfl rfl rfl rfl rfl rfl rfl c8 (by decide) rfl (fun h4 h5 => ?_); refine At.HO.back (.c (.s (.s .z)) (.c (.s (.s .z)) (.c (.s (.s .z)) (.c (.s (.s .z)) (.c (.s (.s .z)) (.c (.s (.s .z)) (.c (.s (.s .z)) (.c (.s (.s .z)) (.c (.s (.s .z)) .n))))))))) ?_; refine At.H.pw 10 rfl rfl rfl rfl rfl (.c (.s (.s .z)) (.c (.s (.s .z)) (.c (.s (.s .z)) (.c (.s (.s .z)) (.c (.s (.s .z)) (.c (.s (.s .z)) (.c (.s (.s .z)) (.c (.s (.s .z)) (.c (.s (.s .z)) .n))))))))) ?_; refine At.H.pw 11 rfl rfl rfl rfl rfl (.c (.s (.s .z)) (.c (.s (.s .z)) (.c (.s (.s .z)) (.c (.s (.s .z)) (.c (.s (.s .z)) (.c (.s (.s .z)) (.c (.s (.s .z)) (.c (.s (.s .z)) (.c (.s (.s .z)) .n))))))))) ?_; refine At.H.pw 12 rfl rfl rfl rfl rfl (.c (.s (.s .z)) (.c (.s (.s .z)) (.c (.s (.s .z)) (.c (.s (.s .z)) (.c (.s (.s .z)) (.c (.s (.s .z)) (.c (.s (.s .z)) (.c (.s (.s .z)) (.c (.s (.s .z)) .n))))))))) ?_; refine At.H.al [13] (Q7 ?_ Q8)
            ··refine At.HO.op rfl ?_
              refine At.store rfl rfl rfl rfl (.s .z) rfl rfl rfl (.s (.s (.s (.s (.s (.s (.s (.s (.c .n))))))))) ?_; refine At.HO.back (.c (.s (.s .z)) (.c (.s (.s .z)) (.c (.s (.s .z)) (.c (.s (.s .z)) (.c (.s (.s .z)) (.c (.s (.s .z)) (.c (.s (.s .z)) (.c (.s (.s .z)) (.c (.s (.s .z)) .n))))))))) ?_; refine At.H.done (by kernel_rfl) ?_; exact At.of (c9 (h4, h5) trivial) trivial
 ·clear V c5; rintro c5 ⟨N, e7, b5, e8, h6, h7, h8, h9, k0, k1⟩ ⟨V, k2, k3⟩; obtain rfl : N.length = h6 := k2; obtain rfl : b5.length = h9 := k3; obtain ⟨k4, f_, k5, hf_, j⟩ := bit V; clear V; have j : (Q19.l0b J L M E C D p u x a3 N e7 b5 e8).bind _ = some e1 := j; unfold Q19.l0b at j
  ·refine sR 1 rfl (nT (At.seq ?_)); rcases bite j with ⟨d0, j⟩ | ⟨d0, j⟩
   ··refine At.condT rfl (decide_eq_true d0) ?_
     refine At.skip (At.thn (At.seq ?_)); refine At.block ?_; refine At.seq (At.region ?_); obtain ⟨b6, j⟩ := bnone j; refine At.y (Y.ixRd hr3 rfl rfl rfl rfl rfl rfl rfl b6.1 b6.2) rfl rfl rfl (At.y (Y.ldFl hr3 rfl (q := 0) rfl rfl b6.1 b6.2 rfl rfl rfl) rfl rfl rfl ?_); refine At.alloc rfl rfl rfl (fun n4 => ?_); refine At.store rfl rfl rfl rfl .z rfl rfl rfl (.c (.c .n)) ?_; refine nT (At.region (At.run 2 rfl (At.y (Y.load rfl rfl .z rfl rfl rfl) rfl rfl rfl (At.f12 (At.f12 (At.f12 ?_)))))); refine At.f12 (At.f12 (At.f12 (At.f12 (At.f12 (At.f12 (At.f12 (At.f12 ?_))))))); obtain ⟨O, k6, j⟩ := bbind j; refine At.call rfl Q107.callee rfl rfl rfl (Q107.spec hr0_1 rfl hc0_1 rfl rfl rfl rfl rfl rfl k6) ?_; rintro _ _ ⟨n5, k7, k8, rfl, rfl, rfl⟩; refine At.lit rfl (xo := [.tmp 20]) (ys := ([O.2.2] : List Int)) (Fl.int .i64) rfl rfl rfl rfl rfl rfl rfl rfl rfl rfl rfl (fun n6 n7 => ?_); obtain ⟨k9, j⟩ := bnone j; refine At.append rfl (.s (.s (.s (.s (.s (.s (.s (.s (.s (.s (.s (.s (.s .z))))))))))))) (Src.own .z (by simp)) rfl rfl rfl rfl rfl rfl rfl rfl k9 (by decide) rfl (fun l5 l6 => ?_); refine At.drop (.s .z) (At.run 1 rfl (At.nil ?_)); refine At.ibn ?_; refine At.thn (At.region (At.run 2 rfl (At.nil (At.drop (.s (.s (.s (.s (.s (.s (.s (.s (.s (.s (.s (.s .z)))))))))))) ?_)))); have j := bnx hf_ j; exact fun a w e hs => ⟨k4, ((N ++ ([O.2.2] : List Int)), O.1, O.2.1, IntKind.i64.wrap (e8 + 1), (N ++ ([O.2.2] : List Int)).length, l5, l6, O.2.1.length, k7, k8), k5, ⟨j, rfl, rfl⟩, e.sub ⟨rfl, rfl, rfl, rfl, rfl, rfl, rfl, trivial⟩, hs⟩
   ··refine At.condF rfl (decide_eq_false d0) ?_
     refine At.exit ?_; refine At.the ?_; refine At.the ?_; exact fun a w e hs => f5 (N, e7, b5, N.length, h7, h8, b5.length, k0, k1) ⟨(bdn j f4), rfl, rfl⟩ a w (e.sub ⟨rfl, rfl, rfl, rfl, trivial⟩) hs

noncomputable def Q91.f (u : Int) (x : List (Bs × Q4)) (C : List (Q10 × Q4)) (D : List Q1) (E G : List Int) (I : List (Q2 × Int)) (J : List Q2) (L M : List Int) (N : List (List Int)) (O U a2 : Int) (a3 : Bool) : Option ((List (Q2 × Int)) × (List Q2) × (List Int) × (List Int) × (List (List Int))) :=
 if a3 = true then
 (Q19.f u x C D E G I J L M N a2 0 ([(⟨O, U⟩ : Q2)] : List Q2)).bind fun p =>
 some (p.2.2.2.1, p.2.2.2.2, p.2.2.1, p.2.1, p.1)
 else
 (Q19.f u x C D E G I J L M N a2 1 ([(⟨O, U⟩ : Q2)] : List Q2)).bind fun q =>
 some (q.2.2.2.1, q.2.2.2.2, q.2.2.1, q.2.1, q.1)
theorem Q91.callee : Callee Tryz.prog 104 := ⟨_, Tryz.func104, by kernel_rfl, by kernel_rfl⟩
theorem Q91.spec {E p q a2 : Int} {G : List (Bs × Q4)} {I : List (Q10 × Q4)} {J : List Q1} {C D u x : List Int} {X : List (Q2 × Int)} {L : List Q2} {M : List (List Int)} {a3 : Bool} (hr0_1 : RdS Q1.fl.rep R.heap A0_1 J) (hn0_1 : J.length = n0_1) (hc0_1 : n0_1 ≤ c0_1) (hn0_2 : C.length = n0_2) (hn0_3 : D.length = n0_3) (hn0_5 : L.length = n0_5) (hn0_6 : u.length = n0_6) (hn0_7 : x.length = n0_7) (hn0_8 : M.length = n0_8) {r : (List (Q2 × Int)) × (List Q2) × (List Int) × (List Int) × (List (List Int))} (j : Q91.f E G I J C D X L u x M p q a2 a3 = some r) :
 Spec Tryz.prog 104 [bp b0, .agg #[i6 p, i6 q], i6 a2, .bool a3] R (pc b0 [bp b0_0, .slice A0_1 n0_1 c0_1, .slice A0_2 n0_2 c0_2, .slice A0_3 n0_3 c0_3, .map (some b0_4), .slice A0_5 n0_5 c0_5, .slice A0_6 n0_6 c0_6, .slice A0_7 n0_7 c0_7, .slice A0_8 n0_8 c0_8] 101 :: pc b0_0 [i6 E, .map (some b0_0_1), .map (some b0_0_2)] 82 :: mapo Fl.bs.ov Q4.fl.av b0_0_1 G :: mapo Q10.fl.av Q4.fl.av b0_0_2 I :: row (Fl.int .u64) 28 A0_2 n0_2 c0_2 C :: row (Fl.int .i64) 3 A0_3 n0_3 c0_3 D :: mapo Q2.fl.av (Fl.int .i64).ov b0_4 X :: row Q2.fl 65 A0_5 n0_5 c0_5 L :: row (Fl.int .i64) 3 A0_6 n0_6 c0_6 u :: row (Fl.int .i64) 3 A0_7 n0_7 c0_7 x :: rows (Fl.int .i64) 3 39 A0_8 n0_8 c0_8 M :: Fr) (fun v l' => ∃ (N : Nat) (Z : Option Addr) (a0 : Nat) (a1 : Option Addr) (a4 : Nat) (O : Nat) (a5 : Option Addr) (a6 : Nat) (U : Nat) (a7 : Option Addr) (a8 : Nat), v = .tuple #[] ∧ pc b0 [bp b0_0, .slice A0_1 n0_1 c0_1, .slice A0_2 n0_2 c0_2, .slice A0_3 n0_3 c0_3, .map (some b0_4), .slice Z N a0, .slice a1 ((u ++ ([a2] : List Int)).length) a4, .slice a5 O a6, .slice a7 U a8] 101 :: pc b0_0 [i6 E, .map (some b0_0_1), .map (some b0_0_2)] 82 :: mapo Fl.bs.ov Q4.fl.av b0_0_1 G :: mapo Q10.fl.av Q4.fl.av b0_0_2 I :: row (Fl.int .u64) 28 A0_2 n0_2 c0_2 C :: row (Fl.int .i64) 3 A0_3 n0_3 c0_3 D :: mapo Q2.fl.av (Fl.int .i64).ov b0_4 r.1 :: row Q2.fl 65 Z N a0 r.2.1 :: row (Fl.int .i64) 3 a1 ((u ++ ([a2] : List Int)).length) a4 r.2.2.1 :: row (Fl.int .i64) 3 a5 O a6 r.2.2.2.1 :: rows (Fl.int .i64) 3 39 a7 U a8 r.2.2.2.2 :: Fr = l' ∧ r.2.1.length = N ∧ r.2.2.2.1.length = O ∧ r.2.2.2.2.length = U) := by
 subst hn0_1; subst hn0_2; subst hn0_3; subst hn0_5; subst hn0_6; subst hn0_7; subst hn0_8; refine Spec.of Tryz.func104 rfl rfl ?_; unfold Q91.f at j; have j := brun j; refine At.seq (At.region ?_); refine At.box rfl rfl (cs := [i6 p, i6 q]) rfl rfl (fun e7 => ?_); refine nT (sR 1 rfl (nT ?_)); rcases bite j with ⟨V, j⟩ | ⟨V, j⟩
 ··refine At.condT rfl V ?_
   refine At.region (At.run 2 rfl (At.y (Y.load rfl rfl .z rfl rfl rfl) rfl rfl rfl ?_)); refine At.lit rfl (xo := [.tmp 11]) (ys := ([(⟨p, q⟩ : Q2)] : List Q2)) Q2.fl rfl rfl rfl rfl rfl rfl rfl rfl rfl rfl rfl (fun e8 e9 => ?_); refine At.freeze .z fun f0 b3 b4 b5 b6 b7 => ?_; refine At.f11 (At.f11 (At.f11 (At.f11 (At.f11 (At.f11 (At.f11 (At.f11 ?_))))))); refine At.f11 (At.f11 (At.f11 ?_)); obtain ⟨a9, b8, j⟩ := bbind j; refine At.call rfl Q19.callee rfl rfl rfl (Q19.spec (RdS.mono b6 hr0_1) rfl hc0_1 rfl rfl rfl rfl rfl rfl b3 b4 b5 b8) ?_; rintro _ _ ⟨f1, b9, c4, c5, c6, c7, c8, f2, c9, d0, rfl, rfl, rfl, rfl⟩; refine At.nil ?_; refine At.thaw b7 ?_; refine At.rowLen (.s (.s (.s (.s (.s (.s (.s (.s (.s (.s .z)))))))))) fun d1 => ?_; refine At.drop .z (At.drop (.s (.s (.s (.s (.s (.s (.s (.s (.s (.s (.s .z))))))))))) ?_); cases bret j; exact At.res (.inr rfl) rfl rfl ⟨a9.2.2.2.2.length, c9, d0, c7, c8, (x ++ ([0] : List Int)).length, c5, c6, a9.1.length, b9, c4, rfl, rfl, rfl, d1, rfl⟩
 ··refine At.condF rfl (bn V) ?_
   refine At.region (At.run 2 rfl (At.y (Y.load rfl rfl .z rfl rfl rfl) rfl rfl rfl ?_)); refine At.lit rfl (xo := [.tmp 16]) (ys := ([(⟨p, q⟩ : Q2)] : List Q2)) Q2.fl rfl rfl rfl rfl rfl rfl rfl rfl rfl rfl rfl (fun f3 f4 => ?_); refine At.freeze .z fun f5 d2 d3 d4 d5 d6 => ?_; refine At.f11 (At.f11 (At.f11 (At.f11 (At.f11 (At.f11 (At.f11 (At.f11 ?_))))))); refine At.f11 (At.f11 (At.f11 ?_)); obtain ⟨b2, d7, j⟩ := bbind j; refine At.call rfl Q19.callee rfl rfl rfl (Q19.spec (RdS.mono d5 hr0_1) rfl hc0_1 rfl rfl rfl rfl rfl rfl d2 d3 d4 d7) ?_; rintro _ _ ⟨f6, d8, d9, e0, e1, e2, e3, f7, e4, e5, rfl, rfl, rfl, rfl⟩; refine At.nil ?_; refine At.thaw d6 ?_; refine At.rowLen (.s (.s (.s (.s (.s (.s (.s (.s (.s (.s .z)))))))))) fun e6 => ?_; refine At.drop .z (At.drop (.s (.s (.s (.s (.s (.s (.s (.s (.s (.s (.s .z))))))))))) ?_); cases bret j; exact At.res (.inr rfl) rfl rfl ⟨b2.2.2.2.2.length, e4, e5, e2, e3, (x ++ ([1] : List Int)).length, e0, e1, b2.1.length, d8, d9, rfl, rfl, rfl, e6, rfl⟩

noncomputable def Q33.f (a0 p q : Int) : Option (Int × Int) :=
 some (p, a0)
theorem Q33.callee : Callee Tryz.prog 103 := ⟨_, Tryz.func103, by kernel_rfl, by kernel_rfl⟩
theorem Q33.spec {a0 p q : Int} {r : Int × Int} (j : Q33.f a0 p q = some r) :
 Spec Tryz.prog 103 [i6 a0, bp b1] R (pc b1 [i6 p, i6 q] 65 :: Fr) (fun v l' => v = .agg #[i6 r.1, i6 r.2] ∧ pc b1 [i6 p, i6 q] 65 :: Fr = l') := by
 refine Spec.of Tryz.func103 rfl rfl ?_; unfold Q33.f at j; have j := brun j; refine At.seq (At.region ?_); refine At.alloc rfl rfl rfl (fun u => ?_); refine nT (sR 1 rfl (At.y (Y.load rfl rfl (.s .z) rfl rfl rfl) rfl rfl rfl (At.run 1 rfl ?_))); refine At.y (Y.build (is := [0, 1]) (xo := [.tmp 5, .tmp 6]) (vs := [i6 p, i6 a0]) (cs := [i6 p, i6 a0]) rfl rfl rfl rfl rfl rfl) rfl rfl rfl ?_; refine At.store rfl rfl rfl rfl .z rfl rfl rfl (.c (.c .n)) ?_; refine nT (At.ret ?_); refine At.resM (.inl rfl) rfl (RV.cell rfl rfl .z rfl rfl rfl RV.nil) ?_; refine At.drop .z ?_; cases bret j; exact fun a w e hs => ⟨_, ⟨rfl, rfl⟩, hs⟩

noncomputable def Q50.l0b (x : Int) (q : (List Int)) (u : List Q2) (p : Int) : Option (((List Q2) × Int) ⊕ (((List Q2)) ⊕ ((List (Q2 × Int)) × (List Q2) × (List Int) × (List Int) × (List (List Int))))) :=
 if p < (q.length : Int) then
 if (0 : Int) ≤ p ∧ p < (q.length : Int) then
 if (u.length + ([(⟨gt q p, x⟩ : Q2)] : List Q2).length) * 16 ≤ 140737488355328 then
 nx ((u ++ ([(⟨gt q p, x⟩ : Q2)] : List Q2)), IntKind.i64.wrap (p + 1))
 else none
 else none
 else
 dn (.inl u)
noncomputable def Q50.l0 (p : Int) (q : (List Int)) (u : List Q2) (x : Int) : Option (((List Q2)) ⊕ ((List (Q2 × Int)) × (List Q2) × (List Int) × (List Int) × (List (List Int)))) := iter (fun t_ : (List Q2) × Int => Q50.l0b p q t_.1 t_.2) (u, x)
noncomputable def Q50.f (x : Int) (C : List (Bs × Q4)) (D : List (Q10 × Q4)) (E : List Q1) (G I : List Int) (J : List (Q2 × Int)) (L : List Q2) (M N : List Int) (O : List (List Int)) (U X a2 Z a4 : Int) (a0 : Bs) (a5 a3 : Int) : Option ((List (Q2 × Int)) × (List Q2) × (List Int) × (List Int) × (List (List Int))) :=
 (Q131.f x C D U a0).bind fun u =>
 (Q17.f u.1 u.2.1 u.2.2.1 u.2.2.2).bind fun a1 =>
 jn (Q50.l0 Z a1 ([] : List Q2) 0) (fun (V : List Q2) =>
 if (V.length : Int) = 0 then
 (Q91.f x C D E G I J L M N O U X a3 (decide (a3 = 1))).bind fun p =>
 some (p.1, p.2.1, p.2.2.1, p.2.2.2.1, p.2.2.2.2)
 else
 (Q19.f x C D E G I J L M N O a3 0 V).bind fun q =>
 some (q.2.2.2.1, q.2.2.2.2, q.2.2.1, q.2.1, q.1))
theorem Q50.callee : Callee Tryz.prog 106 := ⟨_, Tryz.func106, by kernel_rfl, by kernel_rfl⟩
theorem Q50.spec {M N O U p V Z a3 : Int} {a0 : List (Bs × Q4)} {a1 : List (Q10 × Q4)} {a2 : List Q1} {C D u E : List Int} {a6 : List (Q2 × Int)} {G : List Q2} {I : List (List Int)} {a4 : Bs} (hr0_1 : RdS Q1.fl.rep R.heap A0_1 a2) (hn0_1 : a2.length = n0_1) (hc0_1 : n0_1 ≤ c0_1) (hn0_2 : C.length = n0_2) (hn0_3 : D.length = n0_3) (hn0_5 : G.length = n0_5) (hn0_6 : u.length = n0_6) (hn0_7 : E.length = n0_7) (hn0_8 : I.length = n0_8) (hg0 : RdS (Fl.int .u8).rep R.heap (some ⟨0, 0, none⟩) Tryz.gtab0) {r : (List (Q2 × Int)) × (List Q2) × (List Int) × (List Int) × (List (List Int))} (j : Q50.f M a0 a1 a2 C D a6 G u E I N O U p V a4 Z a3 = some r) :
 Spec Tryz.prog 106 [bp b0, .agg #[i6 N, i6 O], .agg #[i6 U, i6 p, i6 V, .string ⟨(a4).toArray⟩, i6 Z], i6 a3] R (pc b0 [bp b0_0, .slice A0_1 n0_1 c0_1, .slice A0_2 n0_2 c0_2, .slice A0_3 n0_3 c0_3, .map (some b0_4), .slice A0_5 n0_5 c0_5, .slice A0_6 n0_6 c0_6, .slice A0_7 n0_7 c0_7, .slice A0_8 n0_8 c0_8] 101 :: pc b0_0 [i6 M, .map (some b0_0_1), .map (some b0_0_2)] 82 :: mapo Fl.bs.ov Q4.fl.av b0_0_1 a0 :: mapo Q10.fl.av Q4.fl.av b0_0_2 a1 :: row (Fl.int .u64) 28 A0_2 n0_2 c0_2 C :: row (Fl.int .i64) 3 A0_3 n0_3 c0_3 D :: mapo Q2.fl.av (Fl.int .i64).ov b0_4 a6 :: row Q2.fl 65 A0_5 n0_5 c0_5 G :: row (Fl.int .i64) 3 A0_6 n0_6 c0_6 u :: row (Fl.int .i64) 3 A0_7 n0_7 c0_7 E :: rows (Fl.int .i64) 3 39 A0_8 n0_8 c0_8 I :: Fr) (fun v l' => ∃ (a9 : Nat) (c4 : Option Addr) (c5 : Nat) (c6 : Option Addr) (c7 : Nat) (b2 : Nat) (c8 : Option Addr) (c9 : Nat) (b3 : Nat) (d0 : Option Addr) (d1 : Nat), v = .tuple #[] ∧ pc b0 [bp b0_0, .slice A0_1 n0_1 c0_1, .slice A0_2 n0_2 c0_2, .slice A0_3 n0_3 c0_3, .map (some b0_4), .slice c4 a9 c5, .slice c6 ((u ++ ([a3] : List Int)).length) c7, .slice c8 b2 c9, .slice d0 b3 d1] 101 :: pc b0_0 [i6 M, .map (some b0_0_1), .map (some b0_0_2)] 82 :: mapo Fl.bs.ov Q4.fl.av b0_0_1 a0 :: mapo Q10.fl.av Q4.fl.av b0_0_2 a1 :: row (Fl.int .u64) 28 A0_2 n0_2 c0_2 C :: row (Fl.int .i64) 3 A0_3 n0_3 c0_3 D :: mapo Q2.fl.av (Fl.int .i64).ov b0_4 r.1 :: row Q2.fl 65 c4 a9 c5 r.2.1 :: row (Fl.int .i64) 3 c6 ((u ++ ([a3] : List Int)).length) c7 r.2.2.1 :: row (Fl.int .i64) 3 c8 b2 c9 r.2.2.2.1 :: rows (Fl.int .i64) 3 39 d0 b3 d1 r.2.2.2.2 :: Fr = l' ∧ r.2.1.length = a9 ∧ r.2.2.2.1.length = b2 ∧ r.2.2.2.2.length = b3) := by
 subst hn0_1; subst hn0_2; subst hn0_3; subst hn0_5; subst hn0_6; subst hn0_7; subst hn0_8; refine Spec.of Tryz.func106 rfl rfl ?_; unfold Q50.f at j; have j := brun j; refine At.seq (At.region ?_); refine At.box rfl rfl (cs := [i6 N, i6 O]) rfl rfl (fun a7 => ?_); refine At.box rfl rfl (cs := [i6 U, i6 p, i6 V, .string ⟨(a4).toArray⟩, i6 Z]) rfl rfl (fun b4 => ?_); refine nT (sR 1 rfl (nT (At.seq ?_))); refine At.seq ?_; refine At.held [pc b4 [i6 U, i6 p, i6 V, .string ⟨(a4).toArray⟩, i6 Z] 33, pc a7 [i6 N, i6 O] 65, pc b0 [bp b0_0, .slice A0_1 a2.length c0_1, .slice A0_2 C.length c0_2, .slice A0_3 D.length c0_3, .map (some b0_4), .slice A0_5 G.length c0_5, .slice A0_6 u.length c0_6, .slice A0_7 E.length c0_7, .slice A0_8 I.length c0_8] 101, pc b0_0 [i6 M, .map (some b0_0_1), .map (some b0_0_2)] 82, mapo Fl.bs.ov Q4.fl.av b0_0_1 a0, mapo Q10.fl.av Q4.fl.av b0_0_2 a1, row (Fl.int .u64) 28 A0_2 C.length c0_2 C, row (Fl.int .i64) 3 A0_3 D.length c0_3 D, mapo Q2.fl.av (Fl.int .i64).ov b0_4 a6, row Q2.fl 65 A0_5 G.length c0_5 G, row (Fl.int .i64) 3 A0_6 u.length c0_6 u, row (Fl.int .i64) 3 A0_7 E.length c0_7 E, rows (Fl.int .i64) 3 39 A0_8 I.length c0_8 I] 12 rfl ?_; refine At.H.pw 0 rfl rfl rfl rfl rfl (.c .z (.c .z (.c .z (.c .z (.c .z (.c .z (.c .z (.c .z (.c .z (.c .z (.c .z (.c .z (.c .z .n))))))))))))) ?_; refine At.H.pw 1 rfl rfl rfl rfl rfl (.c .z (.c .z (.c .z (.c .z (.c .z (.c .z (.c .z (.c .z (.c .z (.c .z (.c .z (.c .z (.c .z .n))))))))))))) ?_; refine At.H.pw 2 rfl rfl rfl rfl rfl (.c .z (.c .z (.c .z (.c .z (.c .z (.c .z (.c .z (.c .z (.c .z (.c .z (.c .z (.c .z (.c .z .n))))))))))))) ?_; refine At.H.tw 3 rfl (Y.load rfl rfl (.s (.s .z)) rfl rfl rfl) rfl rfl rfl (.c .z (.c .z (.c .z (.c .z (.c .z (.c .z (.c .z (.c .z (.c .z (.c .z (.c .z (.c .z (.c .z .n))))))))))))) ?_; refine At.H.pw 4 rfl rfl rfl rfl rfl (.c .z (.c .z (.c .z (.c .z (.c .z (.c .z (.c .z (.c .z (.c .z (.c .z (.c .z (.c .z (.c .z .n))))))))))))) ?_; refine At.H.tw 5 rfl (Y.load rfl rfl (.s .z) rfl rfl rfl) rfl rfl rfl (.c .z (.c .z (.c .z (.c .z (.c .z (.c .z (.c .z (.c .z (.c .z (.c .z (.c .z (.c .z (.c .z .n))))))))))))) ?_; refine At.H.pw 6 rfl rfl rfl rfl rfl (.c .z (.c .z (.c .z (.c .z (.c .z (.c .z (.c .z (.c .z (.c .z (.c .z (.c .z (.c .z (.c .z .n))))))))))))) ?_; refine At.H.tw 7 rfl (Y.load rfl rfl .z rfl rfl rfl) rfl rfl rfl (.c .z (.c .z (.c .z (.c .z (.c .z (.c .z (.c .z (.c .z (.c .z (.c .z (.c .z (.c .z (.c .z .n))))))))))))) ?_; refine At.H.pw 11 rfl rfl rfl rfl rfl (.c .z (.c .z (.c .z (.c .z (.c .z (.c .z (.c .z (.c .z (.c .z (.c .z (.c .z (.c .z (.c .z .n))))))))))))) ?_; refine At.H.al [8] (Q7 ?_ Q8)
 ··refine At.HO.op rfl ?_
   refine At.f5 (At.f5 (At.f5 ?_)); obtain ⟨l9, f1, j⟩ := bbind j; refine At.call rfl Q131.callee rfl rfl rfl (Q131.spec f1) ?_; rintro _ _ ⟨rfl, rfl⟩; refine At.HO.back (.c (.s (.s (.s .z))) (.c (.s (.s (.s .z))) (.c (.s (.s (.s .z))) (.c .z (.c .z (.c .z (.c .z (.c .z (.c .z (.c .z (.c .z (.c .z (.c .z .n))))))))))))) ?_; refine At.H.al [9] (Q7 ?_ Q8)
   ··refine At.HO.op rfl ?_
     obtain ⟨x, f2, j⟩ := bbind j; refine At.call rfl Q17.callee rfl rfl rfl (Q17.spec hg0 f2) ?_; rintro _ _ ⟨m0, d2, d3, rfl, rfl, rfl⟩; refine At.HO.back (.c (.s (.s (.s (.s .z)))) (.c (.s (.s (.s (.s .z)))) (.c (.s (.s (.s (.s .z)))) (.c (.s .z) (.c (.s .z) (.c (.s .z) (.c (.s .z) (.c (.s .z) (.c (.s .z) (.c (.s .z) (.c (.s .z) (.c (.s .z) (.c (.s .z) .n))))))))))))) ?_; refine At.H.pw 10 rfl rfl rfl rfl rfl (.c (.s (.s (.s (.s .z)))) (.c (.s (.s (.s (.s .z)))) (.c (.s (.s (.s (.s .z)))) (.c (.s .z) (.c (.s .z) (.c (.s .z) (.c (.s .z) (.c (.s .z) (.c (.s .z) (.c (.s .z) (.c (.s .z) (.c (.s .z) (.c (.s .z) .n))))))))))))) ?_; refine At.H.done (by kernel_rfl) ?_; refine At.thn ?_; refine At.block ?_; obtain ⟨f3, f4, m1, j⟩ := bjoin j; obtain ⟨d4, b5, f6⟩ := bsome j; clear j; unfold Q50.l0 at b5; obtain ⟨b6, a5⟩ := Q14.1 b5; clear b5; refine At.nilRow Q2.fl 65 ?_; let d5 : HProp := row (Fl.int .i64) 3 d2 x.length d3 x; let d6 : HProp := pc b0_0 [i6 M, .map (some b0_0_1), .map (some b0_0_2)] 82; let d7 : HProp := mapo Fl.bs.ov Q4.fl.av b0_0_1 a0; let d8 : HProp := mapo Q10.fl.av Q4.fl.av b0_0_2 a1; let d9 : HProp := pc b4 [i6 U, i6 p, i6 V, .string ⟨(a4).toArray⟩, i6 Z] 33; let e1 : HProp := pc a7 [i6 N, i6 O] 65; let e2 : HProp := pc b0 [bp b0_0, .slice A0_1 a2.length c0_1, .slice A0_2 C.length c0_2, .slice A0_3 D.length c0_3, .map (some b0_4), .slice A0_5 G.length c0_5, .slice A0_6 u.length c0_6, .slice A0_7 E.length c0_7, .slice A0_8 I.length c0_8] 101; let e3 : HProp := row (Fl.int .u64) 28 A0_2 C.length c0_2 C; let e4 : HProp := row (Fl.int .i64) 3 A0_3 D.length c0_3 D; let e5 : HProp := mapo Q2.fl.av (Fl.int .i64).ov b0_4 a6; let e6 : HProp := row Q2.fl 65 A0_5 G.length c0_5 G; let e7 : HProp := row (Fl.int .i64) 3 A0_6 u.length c0_6 u; let e8 : HProp := row (Fl.int .i64) 3 A0_7 E.length c0_7 E; let e9 : HProp := rows (Fl.int .i64) 3 39 A0_8 I.length c0_8 I; refine At.loopJ (X := (List Q2) × Int × Nat × (Option Addr) × Nat) (Y := (List Q2) × Nat × (Option Addr) × Nat) (e0 := 0) (fun s_ => [(0, bp b0), (3, i6 a3), (5, bp a7), (6, bp b4), (8, .slice s_.2.2.2.1 s_.2.2.1 s_.2.2.2.2), (20, .slice d2 x.length d3), (21, i6 (x.length : Int)), (22, i6 s_.2.1)]) (fun s_ => row Q2.fl 65 s_.2.2.2.1 s_.2.2.1 s_.2.2.2.2 s_.1 :: d5 :: d6 :: d7 :: d8 :: d9 :: e1 :: e2 :: e3 :: e4 :: e5 :: e6 :: e7 :: e8 :: e9 :: Fr) (fun m_ => fun s_ => iterN (fun t_ : (List Q2) × Int => Q50.l0b p x t_.1 t_.2) m_ (s_.1, s_.2.1) = some d4 ∧ s_.1.length = s_.2.2.1) b6 (([] : List Q2), 0, 0, none, 0) ⟨a5, rfl⟩ (fun s_ => [(0, bp b0), (3, i6 a3), (5, bp a7), (8, .slice s_.2.2.1 s_.2.1 s_.2.2.2)]) (fun s_ => row Q2.fl 65 s_.2.2.1 s_.2.1 s_.2.2.2 s_.1 :: d5 :: d6 :: d7 :: d8 :: d9 :: e1 :: e2 :: e3 :: e4 :: e5 :: e6 :: e7 :: e8 :: e9 :: Fr) (fun s_ => f3 (.inl s_.1) = some r ∧ s_.1.length = s_.2.1) (fun a w e hs => ⟨e.sub ⟨rfl, rfl, rfl, rfl, rfl, rfl, rfl, rfl, trivial⟩, (by exact hs)⟩) ?_ (fun f7 => ?_)
     ·rintro ⟨f8, f9, m2, m3⟩ ⟨j, g0⟩; obtain rfl : f8.length = f9 := g0; have j := (f4 _).symm.trans j
      ·refine At.ibx ?_; refine At.thn (At.seq (sR 3 rfl (nT ?_))); rcases bite j with ⟨b7, j⟩ | ⟨b7, j⟩
       ··refine At.condT rfl (decide_eq_true b7) ?_
         refine sR 1 rfl ?_; refine At.y (Y.load rfl rfl (.s (.s (.s (.s (.s (.s .z)))))) rfl rfl rfl) rfl rfl rfl ?_; refine At.run 3 rfl ?_; refine At.frt (.s (.s (.s (.s (.s (.s (.s (.s (.s (.s (.s (.s (.s (.s .z)))))))))))))) ?_; refine At.frt (.s (.s (.s (.s (.s (.s (.s (.s (.s (.s (.s (.s (.s (.s .z)))))))))))))) ?_; refine At.frt (.s (.s (.s (.s (.s (.s (.s (.s (.s (.s (.s (.s (.s (.s .z)))))))))))))) ?_; refine At.frt (.s (.s (.s (.s (.s (.s (.s (.s (.s (.s (.s (.s (.s (.s .z)))))))))))))) ?_; refine At.frt (.s (.s (.s (.s (.s (.s (.s (.s (.s (.s (.s (.s (.s (.s .z)))))))))))))) ?_; refine At.frt (.s (.s (.s (.s (.s (.s (.s (.s (.s (.s (.s (.s (.s (.s .z)))))))))))))) ?_; refine At.frt (.s (.s (.s (.s (.s (.s (.s (.s (.s (.s (.s (.s (.s (.s .z)))))))))))))) ?_; refine At.f11 (At.f11 (At.f11 ?_)); refine At.frt (.s (.s (.s (.s (.s (.s (.s (.s (.s (.s (.s (.s (.s (.s .z)))))))))))))) ?_; obtain ⟨b8, g1, j⟩ := bbind j; refine At.call rfl Q91.callee rfl rfl rfl (Q91.spec hr0_1 rfl hc0_1 rfl rfl rfl rfl rfl rfl g1) ?_; rintro _ _ ⟨m4, g2, g3, g4, g5, m5, g6, g7, m6, g8, g9, rfl, rfl, rfl, rfl, rfl⟩; refine nT (At.ret (At.thr (At.drop (.s (.s (.s (.s (.s (.s (.s (.s (.s (.s (.s .z))))))))))) (At.drop (.s (.s (.s (.s (.s (.s (.s (.s (.s (.s (.s .z))))))))))) (At.drop (.s (.s (.s (.s (.s (.s (.s (.s (.s (.s (.s .z))))))))))) (At.drop (.s (.s (.s (.s (.s (.s (.s (.s (.s (.s (.s .z))))))))))) ?_)))))); cases bret j; exact At.res (.inl rfl) rfl rfl ⟨b8.2.1.length, g2, g3, g4, g5, b8.2.2.2.1.length, g6, g7, b8.2.2.2.2.length, g8, g9, rfl, rfl, rfl, rfl, rfl⟩
       ··refine At.condF rfl (decide_eq_false b7) ?_
         refine At.skip (At.thn (At.region (At.run 3 rfl ?_))); refine At.freeze .z fun m7 h0 h1 h2 h3 h4 => ?_; refine At.f13 (At.f13 (At.f13 (At.f13 (At.f13 (At.f13 (At.f13 (At.f10 ?_))))))); refine At.f10 (At.f10 (At.f13 ?_)); obtain ⟨f0, h5, j⟩ := bbind j; refine At.call rfl Q19.callee rfl rfl rfl (Q19.spec (RdS.mono h3 hr0_1) rfl hc0_1 rfl rfl rfl rfl rfl rfl h0 h1 h2 h5) ?_; rintro _ _ ⟨m8, h6, h7, h8, h9, k0, k1, m9, k2, k3, rfl, rfl, rfl, rfl⟩; refine At.nil ?_; refine At.thaw h4 ?_; refine At.rowLen (.s (.s (.s (.s (.s (.s (.s (.s (.s (.s .z)))))))))) fun k4 => ?_; refine At.drop .z (At.drop (.s (.s (.s (.s (.s (.s (.s (.s (.s (.s (.s .z))))))))))) (At.drop (.s (.s (.s (.s (.s (.s (.s (.s (.s (.s (.s .z))))))))))) (At.drop (.s (.s (.s (.s (.s (.s (.s (.s (.s (.s (.s .z))))))))))) ?_))); cases bret j; exact At.res (.inr rfl) rfl rfl ⟨f0.2.2.2.2.length, k2, k3, k0, k1, (E ++ ([0] : List Int)).length, h8, h9, f0.1.length, h6, h7, rfl, rfl, rfl, k4, rfl⟩
     ·clear a5 b6; rintro b6 ⟨L, J, k5, k6, k7⟩ ⟨a5, k8⟩; obtain rfl : L.length = k5 := k8; obtain ⟨k9, f_, l5, hf_, j⟩ := bit a5; clear a5; have j : (Q50.l0b p x L J).bind _ = some d4 := j; unfold Q50.l0b at j
      ·refine sR 1 rfl (nT (At.seq ?_)); rcases bite j with ⟨b9, j⟩ | ⟨b9, j⟩
       ··refine At.condT rfl (decide_eq_true b9) ?_
         refine At.skip (At.thn (At.seq ?_)); refine At.block ?_; refine At.seq (At.region ?_); obtain ⟨a8, j⟩ := bnone j; refine At.y (Y.ix (.s .z) rfl rfl rfl rfl rfl rfl a8.1 a8.2) rfl rfl rfl (At.y (Y.ld (.s .z) (q := 0) rfl rfl a8.1 a8.2 rfl rfl rfl) rfl rfl rfl (At.run 1 rfl (nT (At.region (At.run 3 rfl ?_))))); refine At.y (Y.load rfl rfl (.s (.s (.s (.s (.s .z))))) rfl rfl rfl) rfl rfl rfl ?_; refine At.y (Y.build (is := [0, 1]) (xo := [.tmp 27, .tmp 29]) (vs := [i6 (gt x J), i6 p]) (cs := [i6 (gt x J), i6 p]) rfl rfl rfl rfl rfl rfl) rfl rfl rfl ?_; refine At.lit rfl (xo := [.tmp 30]) (ys := ([(⟨gt x J, p⟩ : Q2)] : List Q2)) Q2.fl rfl rfl rfl rfl rfl rfl rfl rfl rfl rfl rfl (fun n2 n4 => ?_); obtain ⟨l6, j⟩ := bnone j; refine At.append rfl (.s .z) (Src.own .z (by simp)) rfl rfl rfl rfl rfl rfl rfl rfl l6 (by decide) rfl (fun l7 l8 => ?_); refine At.drop (.s .z) (At.run 1 rfl (At.nil ?_)); refine At.ibn ?_; refine At.thn (At.region (At.run 2 rfl (At.nil ?_))); have j := bnx hf_ j; exact fun a w e hs => ⟨k9, ((L ++ ([(⟨gt x J, p⟩ : Q2)] : List Q2)), IntKind.i64.wrap (J + 1), (L ++ ([(⟨gt x J, p⟩ : Q2)] : List Q2)).length, l7, l8), l5, ⟨j, rfl⟩, e.sub ⟨rfl, rfl, rfl, rfl, rfl, rfl, rfl, rfl, trivial⟩, hs⟩
       ··refine At.condF rfl (decide_eq_false b9) ?_
         refine At.exit ?_; refine At.the ?_; refine At.the ?_; exact fun a w e hs => f7 (L, L.length, k6, k7) ⟨(bdn j f6), rfl⟩ a w (e.sub ⟨rfl, rfl, rfl, rfl, trivial⟩) hs

noncomputable def Q142.f (D : Int) (E : List (Bs × Q4)) (G : List (Q10 × Q4)) (q : List Q1) (x C : List Int) (I : List (Q2 × Int)) (J : List Q2) (L M : List Int) (N : List (List Int)) (u p : Int) : Option ((List (Q2 × Int)) × (List Q2) × (List Int) × (List Int) × (List (List Int))) :=
 if (0 : Int) ≤ p ∧ p < (q.length : Int) then
 jn (
 if (gt q p).Kind = 1 then
 some (.inl (decide ((gt q p).Kind = 1)))
 else
 some (.inl (decide ((gt q p).Kind = 2)))) (fun (b2 : Bool) =>
 if b2 = true then
 (Q91.f D E G q x C I J L M N u p 0 (decide ((gt q p).Kind = 1))).bind fun O =>
 some (O.1, O.2.1, O.2.2.1, O.2.2.2.1, O.2.2.2.2)
 else
 jn (
 if (gt q p).Kind = 3 then
 some (.inl (decide ((gt q p).Kind = 3)))
 else
 some (.inl (decide ((gt q p).Kind = 12)))) (fun (b3 : Bool) =>
 if b3 = true then
 (Q137.f D E G ((gt q p).Name)).bind fun a3 =>
 (Q144.f a3.1 a3.2.1 a3.2.2.1 a3.2.2.2 u).bind fun b4 =>
 (Q91.f D E G q x C I J L M N u p 0 (b4 == decide ((gt q p).Kind = 3))).bind fun U =>
 some (U.1, U.2.1, U.2.2.1, U.2.2.2.1, U.2.2.2.2)
 else
 if (gt q p).Kind = 4 then
 if (0 : Int) ≤ p ∧ p < (x.length : Int) then
 (Q26.f (gt x p)).bind fun b5 =>
 (Q33.f b5 u p).bind fun a4 =>
 (Q19.f D E G q x C I J L M N 0 0 ([(⟨a4.1, a4.2⟩ : Q2)] : List Q2)).bind fun V =>
 some (V.2.2.2.1, V.2.2.2.2, V.2.2.1, V.2.1, V.1)
 else none
 else
 if (gt q p).Kind = 6 then
 (Q33.f ((gt q p).A) u p).bind fun a5 =>
 (Q33.f ((gt q p).B) u p).bind fun a6 =>
 (Q19.f D E G q x C I J L M N 1 0 ([(⟨a5.1, a5.2⟩ : Q2), (⟨a6.1, a6.2⟩ : Q2)] : List Q2)).bind fun X =>
 some (X.2.2.2.1, X.2.2.2.2, X.2.2.1, X.2.1, X.1)
 else
 if (gt q p).Kind = 7 then
 (Q33.f ((gt q p).A) u p).bind fun a7 =>
 (Q33.f ((gt q p).B) u p).bind fun a8 =>
 (Q19.f D E G q x C I J L M N 0 0 ([(⟨a7.1, a7.2⟩ : Q2), (⟨a8.1, a8.2⟩ : Q2)] : List Q2)).bind fun Z =>
 some (Z.2.2.2.1, Z.2.2.2.2, Z.2.2.1, Z.2.1, Z.1)
 else
 if (gt q p).Kind = 8 then
 (Q50.f D E G q x C I J L M N u p ((gt q p).Kind) ((gt q p).A) ((gt q p).B) ((gt q p).Name) ((gt q p).At) 0).bind fun a0 =>
 some (a0.1, a0.2.1, a0.2.2.1, a0.2.2.2.1, a0.2.2.2.2)
 else
 if (gt q p).Kind = 9 then
 (Q50.f D E G q x C I J L M N u p ((gt q p).Kind) ((gt q p).A) ((gt q p).B) ((gt q p).Name) ((gt q p).At) 1).bind fun a1 =>
 some (a1.1, a1.2.1, a1.2.2.1, a1.2.2.2.1, a1.2.2.2.2)
 else
 jn (
 if (gt q p).Kind = 10 then
 some (.inl (decide ((gt q p).Kind = 10)))
 else
 some (.inl (decide ((gt q p).Kind = 11)))) (fun (b6 : Bool) =>
 if b6 = true then
 (Q33.f ((gt q p).A) u p).bind fun a9 =>
 (Q19.f D E G q x C I J L M N 0 (gt C p) ([(⟨a9.1, a9.2⟩ : Q2)] : List Q2)).bind fun a2 =>
 if (0 : Int) ≤ p ∧ p < (C.length : Int) then
 some (a2.2.2.2.1, a2.2.2.2.2, a2.2.2.1, a2.2.1, a2.1)
 else none
 else
 some (I, J, L, M, N))))
 else none
theorem Q142.callee : Callee Tryz.prog 50 := ⟨_, Tryz.func50, by kernel_rfl, by kernel_rfl⟩
theorem Q142.spec {a2 L u : Int} {M : List (Bs × Q4)} {N : List (Q10 × Q4)} {E : List Q1} {x p C D : List Int} {a0 : List (Q2 × Int)} {I : List Q2} {J : List (List Int)} (hr0_1 : RdS Q1.fl.rep R.heap A0_1 E) (hn0_1 : E.length = n0_1) (hc0_1 : n0_1 ≤ c0_1) (hn0_2 : x.length = n0_2) (hn0_3 : p.length = n0_3) (hn0_5 : I.length = n0_5) (hn0_6 : C.length = n0_6) (hn0_7 : D.length = n0_7) (hn0_8 : J.length = n0_8) (hg0 : RdS (Fl.int .u8).rep R.heap (some ⟨0, 0, none⟩) Tryz.gtab0) {r : (List (Q2 × Int)) × (List Q2) × (List Int) × (List Int) × (List (List Int))} (j : Q142.f a2 M N E x p a0 I C D J L u = some r) :
 Spec Tryz.prog 50 [bp b0, .agg #[i6 L, i6 u]] R (pc b0 [bp b0_0, .slice A0_1 n0_1 c0_1, .slice A0_2 n0_2 c0_2, .slice A0_3 n0_3 c0_3, .map (some b0_4), .slice A0_5 n0_5 c0_5, .slice A0_6 n0_6 c0_6, .slice A0_7 n0_7 c0_7, .slice A0_8 n0_8 c0_8] 101 :: pc b0_0 [i6 a2, .map (some b0_0_1), .map (some b0_0_2)] 82 :: mapo Fl.bs.ov Q4.fl.av b0_0_1 M :: mapo Q10.fl.av Q4.fl.av b0_0_2 N :: row (Fl.int .u64) 28 A0_2 n0_2 c0_2 x :: row (Fl.int .i64) 3 A0_3 n0_3 c0_3 p :: mapo Q2.fl.av (Fl.int .i64).ov b0_4 a0 :: row Q2.fl 65 A0_5 n0_5 c0_5 I :: row (Fl.int .i64) 3 A0_6 n0_6 c0_6 C :: row (Fl.int .i64) 3 A0_7 n0_7 c0_7 D :: rows (Fl.int .i64) 3 39 A0_8 n0_8 c0_8 J :: Fr) (fun v l' => ∃ (a9 : Nat) (d7 : Option Addr) (d8 : Nat) (b2 : Nat) (d9 : Option Addr) (e0 : Nat) (b3 : Nat) (e1 : Option Addr) (e2 : Nat) (b4 : Nat) (e3 : Option Addr) (e4 : Nat), v = .tuple #[] ∧ pc b0 [bp b0_0, .slice A0_1 n0_1 c0_1, .slice A0_2 n0_2 c0_2, .slice A0_3 n0_3 c0_3, .map (some b0_4), .slice d7 a9 d8, .slice d9 b2 e0, .slice e1 b3 e2, .slice e3 b4 e4] 101 :: pc b0_0 [i6 a2, .map (some b0_0_1), .map (some b0_0_2)] 82 :: mapo Fl.bs.ov Q4.fl.av b0_0_1 M :: mapo Q10.fl.av Q4.fl.av b0_0_2 N :: row (Fl.int .u64) 28 A0_2 n0_2 c0_2 x :: row (Fl.int .i64) 3 A0_3 n0_3 c0_3 p :: mapo Q2.fl.av (Fl.int .i64).ov b0_4 r.1 :: row Q2.fl 65 d7 a9 d8 r.2.1 :: row (Fl.int .i64) 3 d9 b2 e0 r.2.2.1 :: row (Fl.int .i64) 3 e1 b3 e2 r.2.2.2.1 :: rows (Fl.int .i64) 3 39 e3 b4 e4 r.2.2.2.2 :: Fr = l' ∧ r.2.1.length = a9 ∧ r.2.2.1.length = b2 ∧ r.2.2.2.1.length = b3 ∧ r.2.2.2.2.length = b4) := by
 subst hn0_1; subst hn0_2; subst hn0_3; subst hn0_5; subst hn0_6; subst hn0_7; subst hn0_8; refine Spec.of Tryz.func50 rfl rfl ?_; unfold Q142.f at j; have j := brun j; refine At.seq (At.region ?_); refine At.box rfl rfl (cs := [i6 L, i6 u]) rfl rfl (fun G => ?_); refine nT (At.seq ?_); refine At.held [pc G [i6 L, i6 u] 65, pc b0 [bp b0_0, .slice A0_1 E.length c0_1, .slice A0_2 x.length c0_2, .slice A0_3 p.length c0_3, .map (some b0_4), .slice A0_5 I.length c0_5, .slice A0_6 C.length c0_6, .slice A0_7 D.length c0_7, .slice A0_8 J.length c0_8] 101, pc b0_0 [i6 a2, .map (some b0_0_1), .map (some b0_0_2)] 82, mapo Fl.bs.ov Q4.fl.av b0_0_1 M, mapo Q10.fl.av Q4.fl.av b0_0_2 N, row (Fl.int .u64) 28 A0_2 x.length c0_2 x, row (Fl.int .i64) 3 A0_3 p.length c0_3 p, mapo Q2.fl.av (Fl.int .i64).ov b0_4 a0, row Q2.fl 65 A0_5 I.length c0_5 I, row (Fl.int .i64) 3 A0_6 C.length c0_6 C, row (Fl.int .i64) 3 A0_7 D.length c0_7 D, rows (Fl.int .i64) 3 39 A0_8 J.length c0_8 J] 10 rfl ?_; refine At.H.pw 0 rfl rfl rfl rfl rfl (.c .z (.c .z (.c .z (.c .z (.c .z (.c .z (.c .z (.c .z (.c .z (.c .z (.c .z (.c .z .n)))))))))))) ?_; refine At.H.pw 1 rfl rfl rfl rfl rfl (.c .z (.c .z (.c .z (.c .z (.c .z (.c .z (.c .z (.c .z (.c .z (.c .z (.c .z (.c .z .n)))))))))))) ?_; refine At.H.pw 2 rfl rfl rfl rfl rfl (.c .z (.c .z (.c .z (.c .z (.c .z (.c .z (.c .z (.c .z (.c .z (.c .z (.c .z (.c .z .n)))))))))))) ?_; refine At.H.tw 3 rfl (Y.load rfl rfl (.s .z) rfl rfl rfl) rfl rfl rfl (.c .z (.c .z (.c .z (.c .z (.c .z (.c .z (.c .z (.c .z (.c .z (.c .z (.c .z (.c .z .n)))))))))))) ?_; refine At.H.pw 4 rfl rfl rfl rfl rfl (.c .z (.c .z (.c .z (.c .z (.c .z (.c .z (.c .z (.c .z (.c .z (.c .z (.c .z (.c .z .n)))))))))))) ?_; refine At.H.tw 5 rfl (Y.load rfl rfl .z rfl rfl rfl) rfl rfl rfl (.c .z (.c .z (.c .z (.c .z (.c .z (.c .z (.c .z (.c .z (.c .z (.c .z (.c .z (.c .z .n)))))))))))) ?_; obtain ⟨a6, j⟩ := bnone j; refine At.H.tw 6 rfl (Y.ixRd hr0_1 rfl rfl rfl rfl rfl rfl rfl a6.1 a6.2) rfl rfl rfl (.c .z (.c .z (.c .z (.c .z (.c .z (.c .z (.c .z (.c .z (.c .z (.c .z (.c .z (.c .z .n)))))))))))) ?_; refine At.H.tw 7 rfl (Y.ldFl hr0_1 rfl (q := 0) rfl rfl a6.1 a6.2 rfl rfl rfl) rfl rfl rfl (.c .z (.c .z (.c .z (.c .z (.c .z (.c .z (.c .z (.c .z (.c .z (.c .z (.c .z (.c .z .n)))))))))))) ?_; refine At.H.al [8] (Q7 ?_ Q8)
 ··refine At.HO.op rfl ?_
   refine At.alloc rfl rfl rfl (fun a7 => ?_); refine At.HO.back (.c (.s .z) (.c (.s .z) (.c (.s .z) (.c (.s .z) (.c (.s .z) (.c (.s .z) (.c (.s .z) (.c (.s .z) (.c (.s .z) (.c (.s .z) (.c (.s .z) (.c (.s .z) .n)))))))))))) ?_; refine At.H.al [9] (Q7 ?_ Q8)
   ··refine At.HO.op rfl ?_
     refine At.store rfl rfl rfl rfl .z rfl rfl rfl (.c (.c (.c (.c (.c .n))))) ?_; refine At.HO.back (.c (.s .z) (.c (.s .z) (.c (.s .z) (.c (.s .z) (.c (.s .z) (.c (.s .z) (.c (.s .z) (.c (.s .z) (.c (.s .z) (.c (.s .z) (.c (.s .z) (.c (.s .z) .n)))))))))))) ?_; refine At.H.done (by kernel_rfl) ?_; refine At.thn (sR 2 rfl (nT (At.seq (At.region ?_)))); refine At.run 1 rfl (At.y (Y.load rfl rfl .z rfl rfl rfl) rfl rfl rfl (nT ?_)); refine At.block ?_; refine At.seq (sR 2 rfl (nT ?_)); obtain ⟨g0, g1, y7, j⟩ := bjoin j; let V : HProp := pc a7 [i6 ((gt E u).Kind), i6 ((gt E u).A), i6 ((gt E u).B), .string ⟨((gt E u).Name).toArray⟩, i6 ((gt E u).At)] 33; let b5 : HProp := pc b0 [bp b0_0, .slice A0_1 E.length c0_1, .slice A0_2 x.length c0_2, .slice A0_3 p.length c0_3, .map (some b0_4), .slice A0_5 I.length c0_5, .slice A0_6 C.length c0_6, .slice A0_7 D.length c0_7, .slice A0_8 J.length c0_8] 101; let Z : HProp := pc b0_0 [i6 a2, .map (some b0_0_1), .map (some b0_0_2)] 82; refine At.join (X := Bool) (fun a3 => [(0, bp b0), (3, bp G), (4, bp a7), (5, .func (.func 103) #[] #[bp G]), (16, i6 ((gt E u).Kind)), (17, .bool a3)]) (fun a3 => V :: pc G [i6 L, i6 u] 65 :: b5 :: Z :: mapo Fl.bs.ov Q4.fl.av b0_0_1 M :: mapo Q10.fl.av Q4.fl.av b0_0_2 N :: row (Fl.int .u64) 28 A0_2 x.length c0_2 x :: row (Fl.int .i64) 3 A0_3 p.length c0_3 p :: mapo Q2.fl.av (Fl.int .i64).ov b0_4 a0 :: row Q2.fl 65 A0_5 I.length c0_5 I :: row (Fl.int .i64) 3 A0_6 C.length c0_6 C :: row (Fl.int .i64) 3 A0_7 D.length c0_7 D :: rows (Fl.int .i64) 3 39 A0_8 J.length c0_8 J :: Fr) (fun a3 => g0 (.inl a3) = some r) ?_ (fun e5 => ?_)
     ·rintro a3 j; have j := (g1 _).symm.trans j
      ·rcases bite j with ⟨b6, j⟩ | ⟨b6, j⟩
       ··refine At.condT rfl b6 ?_
         refine At.region (At.run 1 rfl (At.y (Y.load rfl rfl (.s .z) rfl rfl rfl) rfl rfl rfl (At.run 1 rfl (At.y (Y.load rfl rfl .z rfl rfl rfl) rfl rfl rfl (At.run 1 rfl (At.f12 (At.f12 ?_))))))); refine At.f12 (At.f12 (At.f12 (At.f12 (At.f12 (At.f12 (At.f12 (At.f12 ?_))))))); refine At.f12 ?_; obtain ⟨b7, g2, j⟩ := bbind j; refine At.call rfl Q91.callee rfl rfl rfl (Q91.spec hr0_1 rfl hc0_1 rfl rfl rfl rfl rfl rfl g2) ?_; rintro _ _ ⟨y8, g3, g4, g5, g6, y9, g7, g8, z0, g9, h0, rfl, rfl, rfl, rfl, rfl⟩; refine At.nil ?_; refine At.ibn ?_; refine At.rowLen (.s (.s (.s (.s (.s (.s (.s (.s .z)))))))) fun h1 => ?_; refine At.drop (.s (.s (.s (.s (.s (.s (.s (.s (.s (.s (.s .z))))))))))) (At.drop (.s (.s (.s (.s (.s (.s (.s (.s (.s (.s (.s .z))))))))))) ?_); cases bret j; exact At.res (.inr rfl) rfl rfl ⟨b7.2.1.length, g3, g4, (C ++ ([0] : List Int)).length, g5, g6, b7.2.2.2.1.length, g7, g8, b7.2.2.2.2.length, g9, h0, rfl, rfl, rfl, h1, rfl, rfl⟩
       ··refine At.condF rfl (bn b6) ?_
         refine At.seq (sR 2 rfl (nT ?_)); obtain ⟨h2, h3, z1, j⟩ := bjoin j; refine At.join (X := Bool) (fun a4 => [(0, bp b0), (3, bp G), (4, bp a7), (5, .func (.func 103) #[] #[bp G]), (16, i6 ((gt E u).Kind)), (26, .bool a4)]) (fun a4 => V :: pc G [i6 L, i6 u] 65 :: b5 :: Z :: mapo Fl.bs.ov Q4.fl.av b0_0_1 M :: mapo Q10.fl.av Q4.fl.av b0_0_2 N :: row (Fl.int .u64) 28 A0_2 x.length c0_2 x :: row (Fl.int .i64) 3 A0_3 p.length c0_3 p :: mapo Q2.fl.av (Fl.int .i64).ov b0_4 a0 :: row Q2.fl 65 A0_5 I.length c0_5 I :: row (Fl.int .i64) 3 A0_6 C.length c0_6 C :: row (Fl.int .i64) 3 A0_7 D.length c0_7 D :: rows (Fl.int .i64) 3 39 A0_8 J.length c0_8 J :: Fr) (fun a4 => h2 (.inl a4) = some r) ?_ (fun e6 => ?_)
         ·rintro a4 j; have j := (h3 _).symm.trans j
          ·rcases bite j with ⟨b8, j⟩ | ⟨b8, j⟩
           ··refine At.condT rfl b8 ?_
             refine At.held [V, pc G [i6 L, i6 u] 65, Z, mapo Fl.bs.ov Q4.fl.av b0_0_1 M, mapo Q10.fl.av Q4.fl.av b0_0_2 N, row (Fl.int .u64) 28 A0_2 x.length c0_2 x, row (Fl.int .i64) 3 A0_3 p.length c0_3 p] 17 rfl ?_; refine At.H.pw 0 rfl rfl rfl rfl rfl (.c .z (.c .z (.c (.s .z) (.c (.s .z) (.c (.s .z) (.c (.s .z) (.c (.s .z) .n))))))) ?_; refine At.H.tw 1 rfl (Y.load rfl rfl (.s .z) rfl rfl rfl) rfl rfl rfl (.c .z (.c .z (.c (.s .z) (.c (.s .z) (.c (.s .z) (.c (.s .z) (.c (.s .z) .n))))))) ?_; refine At.H.pw 2 rfl rfl rfl rfl rfl (.c .z (.c .z (.c (.s .z) (.c (.s .z) (.c (.s .z) (.c (.s .z) (.c (.s .z) .n))))))) ?_; refine At.H.pw 3 rfl rfl rfl rfl rfl (.c .z (.c .z (.c (.s .z) (.c (.s .z) (.c (.s .z) (.c (.s .z) (.c (.s .z) .n))))))) ?_; refine At.H.pw 4 rfl rfl rfl rfl rfl (.c .z (.c .z (.c (.s .z) (.c (.s .z) (.c (.s .z) (.c (.s .z) (.c (.s .z) .n))))))) ?_; refine At.H.pw 6 rfl rfl rfl rfl rfl (.c .z (.c .z (.c (.s .z) (.c (.s .z) (.c (.s .z) (.c (.s .z) (.c (.s .z) .n))))))) ?_; refine At.H.tw 7 rfl (Y.load rfl rfl .z rfl rfl rfl) rfl rfl rfl (.c .z (.c .z (.c (.s .z) (.c (.s .z) (.c (.s .z) (.c (.s .z) (.c (.s .z) .n))))))) ?_; refine At.H.pw 9 rfl rfl rfl rfl rfl (.c .z (.c .z (.c (.s .z) (.c (.s .z) (.c (.s .z) (.c (.s .z) (.c (.s .z) .n))))))) ?_; refine At.H.tw 10 rfl (Y.load rfl rfl (.s .z) rfl rfl rfl) rfl rfl rfl (.c .z (.c .z (.c (.s .z) (.c (.s .z) (.c (.s .z) (.c (.s .z) (.c (.s .z) .n))))))) ?_; refine At.H.pw 12 rfl rfl rfl rfl rfl (.c .z (.c .z (.c (.s .z) (.c (.s .z) (.c (.s .z) (.c (.s .z) (.c (.s .z) .n))))))) ?_; refine At.H.tw 13 rfl (Y.load rfl rfl .z rfl rfl rfl) rfl rfl rfl (.c .z (.c .z (.c (.s .z) (.c (.s .z) (.c (.s .z) (.c (.s .z) (.c (.s .z) .n))))))) ?_; refine At.H.pw 14 rfl rfl rfl rfl rfl (.c .z (.c .z (.c (.s .z) (.c (.s .z) (.c (.s .z) (.c (.s .z) (.c (.s .z) .n))))))) ?_; refine At.H.al [5] (Q7 ?_ Q8)
             ··refine At.HO.op rfl ?_
               refine At.y (Y.load rfl rfl (.s (.s .z)) rfl rfl rfl) rfl rfl rfl ?_; refine At.HO.back (.c .z (.c .z (.c (.s .z) (.c (.s .z) (.c (.s .z) (.c (.s .z) (.c (.s .z) .n))))))) ?_; refine At.H.al [8] (Q7 ?_ Q8)
               ··refine At.HO.op rfl ?_
                 refine At.f5 (At.f5 (At.f5 ?_)); obtain ⟨z2, h4, j⟩ := bbind j; refine At.call rfl Q137.callee rfl rfl rfl (Q137.spec h4) ?_; rintro _ _ ⟨rfl, rfl⟩; refine At.HO.back (.c (.s (.s (.s .z))) (.c (.s (.s (.s .z))) (.c .z (.c .z (.c .z (.c (.s .z) (.c (.s .z) .n))))))) ?_; refine At.H.al [11] (Q7 ?_ Q8)
                 ··refine At.HO.op rfl ?_
                   obtain ⟨z3, h5, j⟩ := bbind j; refine At.call rfl Q144.callee rfl rfl rfl (Q144.spec h5) ?_; rintro _ _ ⟨rfl, rfl⟩; refine At.HO.back (.c (.s (.s (.s .z))) (.c (.s (.s (.s .z))) (.c .z (.c .z (.c .z (.c (.s .z) (.c (.s .z) .n))))))) ?_; refine At.H.pw 15 rfl rfl rfl rfl rfl (.c (.s (.s (.s .z))) (.c (.s (.s (.s .z))) (.c .z (.c .z (.c .z (.c (.s .z) (.c (.s .z) .n))))))) ?_; refine At.H.al [16] (Q7 ?_ Q8)
                   ··refine At.HO.op rfl ?_
                     refine At.f12 (At.f12 (At.f12 (At.f12 (At.f12 (At.f12 (At.f12 (At.f9 ?_))))))); refine At.f9 (At.f9 (At.f12 ?_)); obtain ⟨b9, h6, j⟩ := bbind j; refine At.call rfl Q91.callee rfl rfl rfl (Q91.spec hr0_1 rfl hc0_1 rfl rfl rfl rfl rfl rfl h6) ?_; rintro _ _ ⟨z4, h7, h8, h9, k0, z5, k1, k2, z6, k3, k4, rfl, rfl, rfl, rfl, rfl⟩; refine At.HO.back (.c (.s (.s (.s (.s (.s (.s (.s (.s (.s (.s (.s .z))))))))))) (.c (.s (.s (.s (.s (.s (.s (.s (.s (.s (.s (.s .z))))))))))) (.c (.s .z) (.c (.s .z) (.c (.s .z) (.c (.s .z) (.c (.s .z) .n))))))) ?_; refine At.H.done (by kernel_rfl) ?_; refine At.ibn ?_; refine At.rowLen (.s (.s (.s (.s (.s (.s (.s (.s .z)))))))) fun k5 => ?_; refine At.drop (.s (.s (.s (.s (.s (.s (.s (.s (.s (.s (.s .z))))))))))) (At.drop (.s (.s (.s (.s (.s (.s (.s (.s (.s (.s (.s .z))))))))))) ?_); cases bret j; exact At.res (.inr rfl) rfl rfl ⟨b9.2.1.length, h7, h8, (C ++ ([0] : List Int)).length, h9, k0, b9.2.2.2.1.length, k1, k2, b9.2.2.2.2.length, k3, k4, rfl, rfl, rfl, k5, rfl, rfl⟩
           ··refine At.condF rfl (bn b8) ?_
             refine sR 2 rfl (nT ?_); rcases bite j with ⟨c4, j⟩ | ⟨c4, j⟩
             ··refine At.condT rfl (decide_eq_true c4) ?_
               refine At.held [V, pc G [i6 L, i6 u] 65, Z, mapo Fl.bs.ov Q4.fl.av b0_0_1 M, mapo Q10.fl.av Q4.fl.av b0_0_2 N, row (Fl.int .u64) 28 A0_2 x.length c0_2 x, row (Fl.int .i64) 3 A0_3 p.length c0_3 p] 14 rfl ?_; refine At.H.pw 0 rfl rfl rfl rfl rfl (.c .z (.c .z (.c (.s .z) (.c (.s .z) (.c (.s .z) (.c (.s .z) (.c (.s .z) .n))))))) ?_; refine At.H.pw 1 rfl rfl rfl rfl rfl (.c .z (.c .z (.c (.s .z) (.c (.s .z) (.c (.s .z) (.c (.s .z) (.c (.s .z) .n))))))) ?_; refine At.H.pw 2 rfl rfl rfl rfl rfl (.c .z (.c .z (.c (.s .z) (.c (.s .z) (.c (.s .z) (.c (.s .z) (.c (.s .z) .n))))))) ?_; refine At.H.pw 3 rfl rfl rfl rfl rfl (.c .z (.c .z (.c (.s .z) (.c (.s .z) (.c (.s .z) (.c (.s .z) (.c (.s .z) .n))))))) ?_; refine At.H.pw 4 rfl rfl rfl rfl rfl (.c .z (.c .z (.c (.s .z) (.c (.s .z) (.c (.s .z) (.c (.s .z) (.c (.s .z) .n))))))) ?_; refine At.H.pw 6 rfl rfl rfl rfl rfl (.c .z (.c .z (.c (.s .z) (.c (.s .z) (.c (.s .z) (.c (.s .z) (.c (.s .z) .n))))))) ?_; refine At.H.tw 7 rfl (Y.load rfl rfl (.s .z) rfl rfl rfl) rfl rfl rfl (.c .z (.c .z (.c (.s .z) (.c (.s .z) (.c (.s .z) (.c (.s .z) (.c (.s .z) .n))))))) ?_; refine At.H.al [5] (Q7 ?_ Q8)
               ··refine At.HO.op rfl ?_
                 refine At.y (Y.load rfl rfl (.s (.s .z)) rfl rfl rfl) rfl rfl rfl ?_; refine At.HO.back (.c .z (.c .z (.c (.s .z) (.c (.s .z) (.c (.s .z) (.c (.s .z) (.c (.s .z) .n))))))) ?_; obtain ⟨a8, j⟩ := bnone j; refine At.H.tw 8 rfl (Y.ix (.s (.s (.s (.s (.s .z))))) rfl rfl rfl rfl rfl rfl a8.1 a8.2) rfl rfl rfl (.c .z (.c .z (.c (.s .z) (.c (.s .z) (.c (.s .z) (.c (.s .z) (.c (.s .z) .n))))))) ?_; refine At.H.tw 9 rfl (Y.ld (.s (.s (.s (.s (.s .z))))) (q := 0) rfl rfl a8.1 a8.2 rfl rfl rfl) rfl rfl rfl (.c .z (.c .z (.c (.s .z) (.c (.s .z) (.c (.s .z) (.c (.s .z) (.c (.s .z) .n))))))) ?_; refine At.H.al [10] (Q7 ?_ Q8)
                 ··refine At.HO.op rfl ?_
                   obtain ⟨z7, k6, j⟩ := bbind j; refine At.call rfl Q26.callee rfl rfl rfl (Q26.spec hg0 k6) ?_; rintro _ _ ⟨rfl, rfl⟩; refine At.HO.back (.c .z (.c .z (.c (.s .z) (.c (.s .z) (.c (.s .z) (.c (.s .z) (.c (.s .z) .n))))))) ?_; refine At.H.al [11] (Q7 ?_ Q8)
                   ··refine At.HO.op rfl ?_
                     refine At.f1 ?_; obtain ⟨e7, k7, j⟩ := bbind j; refine At.call rfl Q33.callee rfl rfl rfl (Q33.spec k7) ?_; rintro _ _ ⟨rfl, rfl⟩; refine At.HO.back (.c (.s .z) (.c .z (.c (.s .z) (.c (.s .z) (.c (.s .z) (.c (.s .z) (.c (.s .z) .n))))))) ?_; refine At.H.al [12] (Q7 ?_ Q8)
                     ··refine At.HO.op rfl ?_
                       refine At.lit rfl (xo := [.tmp 59]) (ys := ([(⟨e7.1, e7.2⟩ : Q2)] : List Q2)) Q2.fl rfl rfl rfl rfl rfl rfl rfl rfl rfl rfl rfl (fun z8 z9 => ?_); refine At.HO.back (.c (.s (.s .z)) (.c (.s .z) (.c (.s (.s .z)) (.c (.s (.s .z)) (.c (.s (.s .z)) (.c (.s (.s .z)) (.c (.s (.s .z)) .n))))))) ?_; refine At.H.al [13] (Q7 ?_ Q8)
                       ··refine At.HO.op rfl ?_
                         refine At.freeze .z fun A2 k8 k9 l5 l6 l7 => ?_; refine At.f12 (At.f12 (At.f12 (At.f12 (At.f12 (At.f12 (At.f12 (At.f12 ?_))))))); refine At.f12 (At.f12 (At.f12 ?_)); obtain ⟨e8, l8, j⟩ := bbind j; refine At.call rfl Q19.callee rfl rfl rfl (Q19.spec (RdS.mono l6 hr0_1) rfl hc0_1 rfl rfl rfl rfl rfl rfl k8 k9 l5 l8) ?_; rintro _ _ ⟨A4, l9, m0, m1, m2, m3, m4, A5, m5, m6, rfl, rfl, rfl, rfl⟩; refine At.thaw l7 ?_; refine At.HO.back (.c (.s (.s (.s (.s (.s (.s (.s (.s (.s (.s (.s (.s (.s .z))))))))))))) (.c (.s (.s (.s (.s (.s (.s (.s (.s (.s (.s (.s (.s .z)))))))))))) (.c (.s (.s .z)) (.c (.s (.s .z)) (.c (.s (.s .z)) (.c (.s (.s .z)) (.c (.s (.s .z)) .n))))))) ?_; refine At.H.done (by kernel_rfl) ?_; refine At.ibn ?_; refine At.rowLen (.s (.s (.s (.s (.s (.s (.s (.s (.s .z))))))))) fun m7 => ?_; refine At.rowLen (.s (.s (.s (.s (.s (.s (.s (.s (.s (.s .z)))))))))) fun m8 => ?_; refine At.drop .z (At.drop (.s (.s (.s (.s (.s (.s (.s (.s (.s (.s (.s .z))))))))))) (At.drop (.s (.s (.s (.s (.s (.s (.s (.s (.s (.s (.s .z))))))))))) ?_)); cases bret j; exact At.res (.inr rfl) rfl rfl ⟨e8.2.2.2.2.length, m5, m6, (C ++ ([0] : List Int)).length, m3, m4, (D ++ ([0] : List Int)).length, m1, m2, e8.1.length, l9, m0, rfl, rfl, rfl, m7, m8, rfl⟩
             ··refine At.condF rfl (decide_eq_false c4) ?_
               refine sR 2 rfl (nT ?_); rcases bite j with ⟨c5, j⟩ | ⟨c5, j⟩
               ··refine At.condT rfl (decide_eq_true c5) ?_
                 refine At.held [V, pc G [i6 L, i6 u] 65, Z, mapo Fl.bs.ov Q4.fl.av b0_0_1 M, mapo Q10.fl.av Q4.fl.av b0_0_2 N, row (Fl.int .u64) 28 A0_2 x.length c0_2 x, row (Fl.int .i64) 3 A0_3 p.length c0_3 p] 11 rfl ?_; refine At.H.pw 0 rfl rfl rfl rfl rfl (.c .z (.c .z (.c (.s .z) (.c (.s .z) (.c (.s .z) (.c (.s .z) (.c (.s .z) .n))))))) ?_; refine At.H.pw 1 rfl rfl rfl rfl rfl (.c .z (.c .z (.c (.s .z) (.c (.s .z) (.c (.s .z) (.c (.s .z) (.c (.s .z) .n))))))) ?_; refine At.H.pw 2 rfl rfl rfl rfl rfl (.c .z (.c .z (.c (.s .z) (.c (.s .z) (.c (.s .z) (.c (.s .z) (.c (.s .z) .n))))))) ?_; refine At.H.tw 3 rfl (Y.load rfl rfl .z rfl rfl rfl) rfl rfl rfl (.c .z (.c .z (.c (.s .z) (.c (.s .z) (.c (.s .z) (.c (.s .z) (.c (.s .z) .n))))))) ?_; refine At.H.pw 5 rfl rfl rfl rfl rfl (.c .z (.c .z (.c (.s .z) (.c (.s .z) (.c (.s .z) (.c (.s .z) (.c (.s .z) .n))))))) ?_; refine At.H.pw 6 rfl rfl rfl rfl rfl (.c .z (.c .z (.c (.s .z) (.c (.s .z) (.c (.s .z) (.c (.s .z) (.c (.s .z) .n))))))) ?_; refine At.H.tw 7 rfl (Y.load rfl rfl .z rfl rfl rfl) rfl rfl rfl (.c .z (.c .z (.c (.s .z) (.c (.s .z) (.c (.s .z) (.c (.s .z) (.c (.s .z) .n))))))) ?_; refine At.H.al [4] (Q7 ?_ Q8)
                 ··refine At.HO.op rfl ?_
                   refine At.f1 ?_; obtain ⟨e9, m9, j⟩ := bbind j; refine At.call rfl Q33.callee rfl rfl rfl (Q33.spec m9) ?_; rintro _ _ ⟨rfl, rfl⟩; refine At.HO.back (.c (.s .z) (.c .z (.c (.s .z) (.c (.s .z) (.c (.s .z) (.c (.s .z) (.c (.s .z) .n))))))) ?_; refine At.H.al [8] (Q7 ?_ Q8)
                   ··refine At.HO.op rfl ?_
                     obtain ⟨f0, n2, j⟩ := bbind j; refine At.call rfl Q33.callee rfl rfl rfl (Q33.spec n2) ?_; rintro _ _ ⟨rfl, rfl⟩; refine At.HO.back (.c (.s .z) (.c .z (.c (.s .z) (.c (.s .z) (.c (.s .z) (.c (.s .z) (.c (.s .z) .n))))))) ?_; refine At.H.al [9] (Q7 ?_ Q8)
                     ··refine At.HO.op rfl ?_
                       refine At.lit rfl (xo := [.tmp 68, .tmp 72]) (ys := ([(⟨e9.1, e9.2⟩ : Q2), (⟨f0.1, f0.2⟩ : Q2)] : List Q2)) Q2.fl rfl rfl rfl rfl rfl rfl rfl rfl rfl rfl rfl (fun A6 A7 => ?_); refine At.HO.back (.c (.s (.s .z)) (.c (.s .z) (.c (.s (.s .z)) (.c (.s (.s .z)) (.c (.s (.s .z)) (.c (.s (.s .z)) (.c (.s (.s .z)) .n))))))) ?_; refine At.H.al [10] (Q7 ?_ Q8)
                       ··refine At.HO.op rfl ?_
                         refine At.freeze .z fun A8 n4 n5 n6 n7 n8 => ?_; refine At.f12 (At.f12 (At.f12 (At.f12 (At.f12 (At.f12 (At.f12 (At.f12 ?_))))))); refine At.f12 (At.f12 (At.f12 ?_)); obtain ⟨f2, n9, j⟩ := bbind j; refine At.call rfl Q19.callee rfl rfl rfl (Q19.spec (RdS.mono n7 hr0_1) rfl hc0_1 rfl rfl rfl rfl rfl rfl n4 n5 n6 n9) ?_; rintro _ _ ⟨A9, o0, o7, o8, o9, p0, p1, B0, p2, p3, rfl, rfl, rfl, rfl⟩; refine At.thaw n8 ?_; refine At.HO.back (.c (.s (.s (.s (.s (.s (.s (.s (.s (.s (.s (.s (.s (.s .z))))))))))))) (.c (.s (.s (.s (.s (.s (.s (.s (.s (.s (.s (.s (.s .z)))))))))))) (.c (.s (.s .z)) (.c (.s (.s .z)) (.c (.s (.s .z)) (.c (.s (.s .z)) (.c (.s (.s .z)) .n))))))) ?_; refine At.H.done (by kernel_rfl) ?_; refine At.ibn ?_; refine At.rowLen (.s (.s (.s (.s (.s (.s (.s (.s (.s .z))))))))) fun p4 => ?_; refine At.rowLen (.s (.s (.s (.s (.s (.s (.s (.s (.s (.s .z)))))))))) fun p5 => ?_; refine At.drop .z (At.drop (.s (.s (.s (.s (.s (.s (.s (.s (.s (.s (.s .z))))))))))) (At.drop (.s (.s (.s (.s (.s (.s (.s (.s (.s (.s (.s .z))))))))))) ?_)); cases bret j; exact At.res (.inr rfl) rfl rfl ⟨f2.2.2.2.2.length, p2, p3, (C ++ ([1] : List Int)).length, p0, p1, (D ++ ([0] : List Int)).length, o8, o9, f2.1.length, o0, o7, rfl, rfl, rfl, p4, p5, rfl⟩
               ··refine At.condF rfl (decide_eq_false c5) ?_
                 refine sR 2 rfl (nT ?_); rcases bite j with ⟨c6, j⟩ | ⟨c6, j⟩
                 ··refine At.condT rfl (decide_eq_true c6) ?_
                   refine At.held [V, pc G [i6 L, i6 u] 65, Z, mapo Fl.bs.ov Q4.fl.av b0_0_1 M, mapo Q10.fl.av Q4.fl.av b0_0_2 N, row (Fl.int .u64) 28 A0_2 x.length c0_2 x, row (Fl.int .i64) 3 A0_3 p.length c0_3 p] 11 rfl ?_; refine At.H.pw 0 rfl rfl rfl rfl rfl (.c .z (.c .z (.c (.s .z) (.c (.s .z) (.c (.s .z) (.c (.s .z) (.c (.s .z) .n))))))) ?_; refine At.H.pw 1 rfl rfl rfl rfl rfl (.c .z (.c .z (.c (.s .z) (.c (.s .z) (.c (.s .z) (.c (.s .z) (.c (.s .z) .n))))))) ?_; refine At.H.pw 2 rfl rfl rfl rfl rfl (.c .z (.c .z (.c (.s .z) (.c (.s .z) (.c (.s .z) (.c (.s .z) (.c (.s .z) .n))))))) ?_; refine At.H.tw 3 rfl (Y.load rfl rfl .z rfl rfl rfl) rfl rfl rfl (.c .z (.c .z (.c (.s .z) (.c (.s .z) (.c (.s .z) (.c (.s .z) (.c (.s .z) .n))))))) ?_; refine At.H.pw 5 rfl rfl rfl rfl rfl (.c .z (.c .z (.c (.s .z) (.c (.s .z) (.c (.s .z) (.c (.s .z) (.c (.s .z) .n))))))) ?_; refine At.H.pw 6 rfl rfl rfl rfl rfl (.c .z (.c .z (.c (.s .z) (.c (.s .z) (.c (.s .z) (.c (.s .z) (.c (.s .z) .n))))))) ?_; refine At.H.tw 7 rfl (Y.load rfl rfl .z rfl rfl rfl) rfl rfl rfl (.c .z (.c .z (.c (.s .z) (.c (.s .z) (.c (.s .z) (.c (.s .z) (.c (.s .z) .n))))))) ?_; refine At.H.al [4] (Q7 ?_ Q8)
                   ··refine At.HO.op rfl ?_
                     refine At.f1 ?_; obtain ⟨f3, p6, j⟩ := bbind j; refine At.call rfl Q33.callee rfl rfl rfl (Q33.spec p6) ?_; rintro _ _ ⟨rfl, rfl⟩; refine At.HO.back (.c (.s .z) (.c .z (.c (.s .z) (.c (.s .z) (.c (.s .z) (.c (.s .z) (.c (.s .z) .n))))))) ?_; refine At.H.al [8] (Q7 ?_ Q8)
                     ··refine At.HO.op rfl ?_
                       obtain ⟨f4, p7, j⟩ := bbind j; refine At.call rfl Q33.callee rfl rfl rfl (Q33.spec p7) ?_; rintro _ _ ⟨rfl, rfl⟩; refine At.HO.back (.c (.s .z) (.c .z (.c (.s .z) (.c (.s .z) (.c (.s .z) (.c (.s .z) (.c (.s .z) .n))))))) ?_; refine At.H.al [9] (Q7 ?_ Q8)
                       ··refine At.HO.op rfl ?_
                         refine At.lit rfl (xo := [.tmp 81, .tmp 85]) (ys := ([(⟨f3.1, f3.2⟩ : Q2), (⟨f4.1, f4.2⟩ : Q2)] : List Q2)) Q2.fl rfl rfl rfl rfl rfl rfl rfl rfl rfl rfl rfl (fun B1 B2 => ?_); refine At.HO.back (.c (.s (.s .z)) (.c (.s .z) (.c (.s (.s .z)) (.c (.s (.s .z)) (.c (.s (.s .z)) (.c (.s (.s .z)) (.c (.s (.s .z)) .n))))))) ?_; refine At.H.al [10] (Q7 ?_ Q8)
                         ··refine At.HO.op rfl ?_
                           refine At.freeze .z fun B3 p8 p9 q0 q1 q2 => ?_; refine At.f12 (At.f12 (At.f12 (At.f12 (At.f12 (At.f12 (At.f12 (At.f12 ?_))))))); refine At.f12 (At.f12 (At.f12 ?_)); obtain ⟨f6, q3, j⟩ := bbind j; refine At.call rfl Q19.callee rfl rfl rfl (Q19.spec (RdS.mono q1 hr0_1) rfl hc0_1 rfl rfl rfl rfl rfl rfl p8 p9 q0 q3) ?_; rintro _ _ ⟨B4, q4, q5, q6, q7, q8, q9, B5, r0, r1, rfl, rfl, rfl, rfl⟩; refine At.thaw q2 ?_; refine At.HO.back (.c (.s (.s (.s (.s (.s (.s (.s (.s (.s (.s (.s (.s (.s .z))))))))))))) (.c (.s (.s (.s (.s (.s (.s (.s (.s (.s (.s (.s (.s .z)))))))))))) (.c (.s (.s .z)) (.c (.s (.s .z)) (.c (.s (.s .z)) (.c (.s (.s .z)) (.c (.s (.s .z)) .n))))))) ?_; refine At.H.done (by kernel_rfl) ?_; refine At.ibn ?_; refine At.rowLen (.s (.s (.s (.s (.s (.s (.s (.s (.s .z))))))))) fun r2 => ?_; refine At.rowLen (.s (.s (.s (.s (.s (.s (.s (.s (.s (.s .z)))))))))) fun r3 => ?_; refine At.drop .z (At.drop (.s (.s (.s (.s (.s (.s (.s (.s (.s (.s (.s .z))))))))))) (At.drop (.s (.s (.s (.s (.s (.s (.s (.s (.s (.s (.s .z))))))))))) ?_)); cases bret j; exact At.res (.inr rfl) rfl rfl ⟨f6.2.2.2.2.length, r0, r1, (C ++ ([0] : List Int)).length, q8, q9, (D ++ ([0] : List Int)).length, q6, q7, f6.1.length, q4, q5, rfl, rfl, rfl, r2, r3, rfl⟩
                 ··refine At.condF rfl (decide_eq_false c6) ?_
                   refine sR 2 rfl (nT ?_); rcases bite j with ⟨c7, j⟩ | ⟨c7, j⟩
                   ··refine At.condT rfl (decide_eq_true c7) ?_
                     refine At.region (At.run 1 rfl (At.y (Y.load rfl rfl (.s .z) rfl rfl rfl) rfl rfl rfl (At.y (Y.load rfl rfl .z rfl rfl rfl) rfl rfl rfl (At.f12 (At.f12 (At.f12 (At.f12 ?_))))))); refine At.f12 (At.f12 (At.f12 (At.f12 (At.f12 (At.f12 (At.f12 ?_)))))); obtain ⟨c8, r4, j⟩ := bbind j; refine At.call rfl Q50.callee rfl rfl rfl (Q50.spec hr0_1 rfl hc0_1 rfl rfl rfl rfl rfl rfl hg0 r4) ?_; rintro _ _ ⟨B6, r5, r6, r7, r8, B7, r9, s0, B8, s1, s2, rfl, rfl, rfl, rfl, rfl⟩; refine At.nil ?_; refine At.ibn ?_; refine At.rowLen (.s (.s (.s (.s (.s (.s (.s (.s .z)))))))) fun s3 => ?_; refine At.drop (.s (.s (.s (.s (.s (.s (.s (.s (.s (.s (.s .z))))))))))) (At.drop (.s (.s (.s (.s (.s (.s (.s (.s (.s (.s (.s .z))))))))))) ?_); cases bret j; exact At.res (.inr rfl) rfl rfl ⟨c8.2.1.length, r5, r6, (C ++ ([0] : List Int)).length, r7, r8, c8.2.2.2.1.length, r9, s0, c8.2.2.2.2.length, s1, s2, rfl, rfl, rfl, s3, rfl, rfl⟩
                   ··refine At.condF rfl (decide_eq_false c7) ?_
                     refine sR 2 rfl (nT ?_); rcases bite j with ⟨c9, j⟩ | ⟨c9, j⟩
                     ··refine At.condT rfl (decide_eq_true c9) ?_
                       refine At.region (At.run 1 rfl (At.y (Y.load rfl rfl (.s .z) rfl rfl rfl) rfl rfl rfl (At.y (Y.load rfl rfl .z rfl rfl rfl) rfl rfl rfl (At.f12 (At.f12 (At.f12 (At.f12 ?_))))))); refine At.f12 (At.f12 (At.f12 (At.f12 (At.f12 (At.f12 (At.f12 ?_)))))); obtain ⟨d0, s4, j⟩ := bbind j; refine At.call rfl Q50.callee rfl rfl rfl (Q50.spec hr0_1 rfl hc0_1 rfl rfl rfl rfl rfl rfl hg0 s4) ?_; rintro _ _ ⟨B9, s5, s6, s7, s8, C0, s9, t0, C1, t1, t3, rfl, rfl, rfl, rfl, rfl⟩; refine At.nil ?_; refine At.ibn ?_; refine At.rowLen (.s (.s (.s (.s (.s (.s (.s (.s .z)))))))) fun t4 => ?_; refine At.drop (.s (.s (.s (.s (.s (.s (.s (.s (.s (.s (.s .z))))))))))) (At.drop (.s (.s (.s (.s (.s (.s (.s (.s (.s (.s (.s .z))))))))))) ?_); cases bret j; exact At.res (.inr rfl) rfl rfl ⟨d0.2.1.length, s5, s6, (C ++ ([1] : List Int)).length, s7, s8, d0.2.2.2.1.length, s9, t0, d0.2.2.2.2.length, t1, t3, rfl, rfl, rfl, t4, rfl, rfl⟩
                     ··refine At.condF rfl (decide_eq_false c9) ?_
                       refine At.seq (sR 2 rfl (nT ?_)); obtain ⟨t5, t6, C2, j⟩ := bjoin j; refine At.join (X := Bool) (fun a5 => [(0, bp b0), (3, bp G), (4, bp a7), (5, .func (.func 103) #[] #[bp G]), (100, .bool a5)]) (fun a5 => V :: pc G [i6 L, i6 u] 65 :: b5 :: Z :: mapo Fl.bs.ov Q4.fl.av b0_0_1 M :: mapo Q10.fl.av Q4.fl.av b0_0_2 N :: row (Fl.int .u64) 28 A0_2 x.length c0_2 x :: row (Fl.int .i64) 3 A0_3 p.length c0_3 p :: mapo Q2.fl.av (Fl.int .i64).ov b0_4 a0 :: row Q2.fl 65 A0_5 I.length c0_5 I :: row (Fl.int .i64) 3 A0_6 C.length c0_6 C :: row (Fl.int .i64) 3 A0_7 D.length c0_7 D :: rows (Fl.int .i64) 3 39 A0_8 J.length c0_8 J :: Fr) (fun a5 => t5 (.inl a5) = some r) ?_ (fun f7 => ?_)
                       ·rintro a5 j; have j := (t6 _).symm.trans j
                        ·rcases bite j with ⟨d1, j⟩ | ⟨d1, j⟩
                         ··refine At.condT rfl d1 ?_
                           refine At.held [V, pc G [i6 L, i6 u] 65, Z, mapo Fl.bs.ov Q4.fl.av b0_0_1 M, mapo Q10.fl.av Q4.fl.av b0_0_2 N, row (Fl.int .u64) 28 A0_2 x.length c0_2 x, row (Fl.int .i64) 3 A0_3 p.length c0_3 p] 15 rfl ?_; refine At.H.pw 0 rfl rfl rfl rfl rfl (.c .z (.c .z (.c (.s .z) (.c (.s .z) (.c (.s .z) (.c (.s .z) (.c (.s .z) .n))))))) ?_; refine At.H.pw 1 rfl rfl rfl rfl rfl (.c .z (.c .z (.c (.s .z) (.c (.s .z) (.c (.s .z) (.c (.s .z) (.c (.s .z) .n))))))) ?_; refine At.H.pw 2 rfl rfl rfl rfl rfl (.c .z (.c .z (.c (.s .z) (.c (.s .z) (.c (.s .z) (.c (.s .z) (.c (.s .z) .n))))))) ?_; refine At.H.pw 3 rfl rfl rfl rfl rfl (.c .z (.c .z (.c (.s .z) (.c (.s .z) (.c (.s .z) (.c (.s .z) (.c (.s .z) .n))))))) ?_; refine At.H.pw 5 rfl rfl rfl rfl rfl (.c .z (.c .z (.c (.s .z) (.c (.s .z) (.c (.s .z) (.c (.s .z) (.c (.s .z) .n))))))) ?_; refine At.H.tw 6 rfl (Y.load rfl rfl (.s .z) rfl rfl rfl) rfl rfl rfl (.c .z (.c .z (.c (.s .z) (.c (.s .z) (.c (.s .z) (.c (.s .z) (.c (.s .z) .n))))))) ?_; refine At.H.pw 9 rfl rfl rfl rfl rfl (.c .z (.c .z (.c (.s .z) (.c (.s .z) (.c (.s .z) (.c (.s .z) (.c (.s .z) .n))))))) ?_; refine At.H.pw 10 rfl rfl rfl rfl rfl (.c .z (.c .z (.c (.s .z) (.c (.s .z) (.c (.s .z) (.c (.s .z) (.c (.s .z) .n))))))) ?_; refine At.H.tw 11 rfl (Y.load rfl rfl .z rfl rfl rfl) rfl rfl rfl (.c .z (.c .z (.c (.s .z) (.c (.s .z) (.c (.s .z) (.c (.s .z) (.c (.s .z) .n))))))) ?_; obtain ⟨a1, f8, j⟩ := bbind j; obtain ⟨U, d2, j⟩ := bbind j; obtain ⟨O, j⟩ := bnone j; refine At.H.joinK (X := (Option Addr) × Nat × (Option Addr) × Nat × (Option Addr) × Nat × (Option Addr) × Nat) (fun s_ => []) (fun s_ => pc b0 [bp b0_0, .slice A0_1 E.length c0_1, .slice A0_2 x.length c0_2, .slice A0_3 p.length c0_3, .map (some b0_4), .slice s_.1 U.2.2.2.2.length s_.2.1, .slice s_.2.2.1 ((C ++ ([0] : List Int)).length) s_.2.2.2.1, .slice s_.2.2.2.2.1 ((D ++ ([(gt p u)] : List Int)).length) s_.2.2.2.2.2.1, .slice s_.2.2.2.2.2.2.1 U.1.length s_.2.2.2.2.2.2.2] 101 :: Z :: mapo Fl.bs.ov Q4.fl.av b0_0_1 M :: mapo Q10.fl.av Q4.fl.av b0_0_2 N :: row (Fl.int .u64) 28 A0_2 x.length c0_2 x :: row (Fl.int .i64) 3 A0_3 p.length c0_3 p :: mapo Q2.fl.av (Fl.int .i64).ov b0_4 U.2.2.2.1 :: row Q2.fl 65 s_.1 U.2.2.2.2.length s_.2.1 U.2.2.2.2 :: row (Fl.int .i64) 3 s_.2.2.1 ((C ++ ([0] : List Int)).length) s_.2.2.2.1 U.2.2.1 :: row (Fl.int .i64) 3 s_.2.2.2.2.1 ((D ++ ([(gt p u)] : List Int)).length) s_.2.2.2.2.2.1 U.2.1 :: rows (Fl.int .i64) 3 39 s_.2.2.2.2.2.2.1 U.1.length s_.2.2.2.2.2.2.2 U.1 :: pc G [i6 L, i6 u] 65 :: V :: Fr) (fun s_ => True) ?_ (fun d3 => ?_)
                           ·rintro ⟨t7, t8, t9, u0, u1, u2, u3, u4⟩ -
                            ·refine At.ibn ?_; refine At.rowLen (.s (.s (.s (.s (.s (.s (.s (.s .z)))))))) fun u5 => ?_; refine At.rowLen (.s (.s (.s (.s (.s (.s (.s (.s (.s .z))))))))) fun u6 => ?_; refine At.drop (.s (.s (.s (.s (.s (.s (.s (.s (.s (.s (.s .z))))))))))) (At.drop (.s (.s (.s (.s (.s (.s (.s (.s (.s (.s (.s .z))))))))))) ?_); cases bret j; exact At.res (.inr rfl) rfl rfl ⟨U.2.2.2.2.length, t7, t8, (C ++ ([0] : List Int)).length, t9, u0, (D ++ ([(gt p u)] : List Int)).length, u1, u2, U.1.length, u3, u4, rfl, rfl, rfl, u5, u6, rfl⟩
                           ·refine At.H.al [4, 12] (Q7 ?_ (Q7 ?_ Q8))
                            ··refine At.HO.op rfl ?_
                              refine At.y (Y.load rfl rfl (.s (.s .z)) rfl rfl rfl) rfl rfl rfl ?_; refine At.HO.back (.c .z (.c .z (.c (.s .z) (.c (.s .z) (.c (.s .z) (.c (.s .z) (.c (.s .z) .n))))))) ?_; refine At.H.tw 7 rfl (Y.ix (.s (.s (.s (.s (.s (.s .z)))))) rfl rfl rfl rfl rfl rfl O.1 O.2) rfl rfl rfl (.c .z (.c .z (.c (.s .z) (.c (.s .z) (.c (.s .z) (.c (.s .z) (.c (.s .z) .n))))))) ?_; refine At.H.tw 8 rfl (Y.ld (.s (.s (.s (.s (.s (.s .z)))))) (q := 0) rfl rfl O.1 O.2 rfl rfl rfl) rfl rfl rfl (.c .z (.c .z (.c (.s .z) (.c (.s .z) (.c (.s .z) (.c (.s .z) (.c (.s .z) .n))))))) ?_; refine At.H.al [12] (Q7 ?_ Q8)
                              ··refine At.HO.op rfl ?_
                                refine At.f1 ?_; refine At.call rfl Q33.callee rfl rfl rfl (Q33.spec f8) ?_; rintro _ _ ⟨rfl, rfl⟩; refine At.HO.back (.c (.s .z) (.c .z (.c (.s .z) (.c (.s .z) (.c (.s .z) (.c (.s .z) (.c (.s .z) .n))))))) ?_; refine At.H.al [13] (Q7 ?_ Q8)
                                ··refine At.HO.op rfl ?_
                                  refine At.lit rfl (xo := [.tmp 115]) (ys := ([(⟨a1.1, a1.2⟩ : Q2)] : List Q2)) Q2.fl rfl rfl rfl rfl rfl rfl rfl rfl rfl rfl rfl (fun C3 C4 => ?_); refine At.HO.back (.c (.s (.s .z)) (.c (.s .z) (.c (.s (.s .z)) (.c (.s (.s .z)) (.c (.s (.s .z)) (.c (.s (.s .z)) (.c (.s (.s .z)) .n))))))) ?_; refine At.H.al [14] (Q7 ?_ Q8)
                                  ··refine At.HO.op rfl ?_
                                    refine At.freeze .z fun C5 u7 u9 v0 v1 v2 => ?_; refine At.f12 (At.f12 (At.f12 (At.f12 (At.f12 (At.f12 (At.f12 (At.f12 ?_))))))); refine At.f12 (At.f12 (At.f12 ?_)); refine At.call rfl Q19.callee rfl rfl rfl (Q19.spec (RdS.mono v1 hr0_1) rfl hc0_1 rfl rfl rfl rfl rfl rfl u7 u9 v0 d2) ?_; rintro _ _ ⟨C6, v3, v4, v5, v6, v7, v8, C7, v9, w0, rfl, rfl, rfl, rfl⟩; refine At.thaw v2 ?_; refine At.HO.back (.c (.s (.s (.s (.s (.s (.s (.s (.s (.s (.s (.s (.s (.s .z))))))))))))) (.c (.s (.s (.s (.s (.s (.s (.s (.s (.s (.s (.s (.s .z)))))))))))) (.c (.s (.s .z)) (.c (.s (.s .z)) (.c (.s (.s .z)) (.c (.s (.s .z)) (.c (.s (.s .z)) .n))))))) ?_; refine At.H.done (by kernel_rfl) ?_; refine At.drop .z ?_; exact At.of (d3 (v9, w0, v7, v8, v5, v6, v3, v4) trivial) trivial
                            ··refine At.HO.op rfl ?_
                              refine At.f1 ?_; refine At.call rfl Q33.callee rfl rfl rfl (Q33.spec f8) ?_; rintro _ _ ⟨rfl, rfl⟩; refine At.HO.back (.c (.s .z) (.c .z (.c (.s .z) (.c (.s .z) (.c (.s .z) (.c (.s .z) (.c (.s .z) .n))))))) ?_; refine At.H.al [4, 13] (Q7 ?_ (Q7 ?_ Q8))
                              ··refine At.HO.op rfl ?_
                                refine At.y (Y.load rfl rfl (.s (.s .z)) rfl rfl rfl) rfl rfl rfl ?_; refine At.HO.back (.c (.s .z) (.c .z (.c (.s .z) (.c (.s .z) (.c (.s .z) (.c (.s .z) (.c (.s .z) .n))))))) ?_; refine At.H.tw 7 rfl (Y.ix (.s (.s (.s (.s (.s (.s .z)))))) rfl rfl rfl rfl rfl rfl O.1 O.2) rfl rfl rfl (.c (.s .z) (.c .z (.c (.s .z) (.c (.s .z) (.c (.s .z) (.c (.s .z) (.c (.s .z) .n))))))) ?_; refine At.H.tw 8 rfl (Y.ld (.s (.s (.s (.s (.s (.s .z)))))) (q := 0) rfl rfl O.1 O.2 rfl rfl rfl) rfl rfl rfl (.c (.s .z) (.c .z (.c (.s .z) (.c (.s .z) (.c (.s .z) (.c (.s .z) (.c (.s .z) .n))))))) ?_; refine At.H.al [13] (Q7 ?_ Q8)
                                ··refine At.HO.op rfl ?_
                                  refine At.lit rfl (xo := [.tmp 115]) (ys := ([(⟨a1.1, a1.2⟩ : Q2)] : List Q2)) Q2.fl rfl rfl rfl rfl rfl rfl rfl rfl rfl rfl rfl (fun C8 C9 => ?_); refine At.HO.back (.c (.s (.s .z)) (.c (.s .z) (.c (.s (.s .z)) (.c (.s (.s .z)) (.c (.s (.s .z)) (.c (.s (.s .z)) (.c (.s (.s .z)) .n))))))) ?_; refine At.H.al [14] (Q7 ?_ Q8)
                                  ··refine At.HO.op rfl ?_
                                    refine At.freeze .z fun D0 w1 w2 w3 w4 w5 => ?_; refine At.f12 (At.f12 (At.f12 (At.f12 (At.f12 (At.f12 (At.f12 (At.f12 ?_))))))); refine At.f12 (At.f12 (At.f12 ?_)); refine At.call rfl Q19.callee rfl rfl rfl (Q19.spec (RdS.mono w4 hr0_1) rfl hc0_1 rfl rfl rfl rfl rfl rfl w1 w2 w3 d2) ?_; rintro _ _ ⟨D1, w6, w7, w8, w9, x0, x1, D2, x2, x3, rfl, rfl, rfl, rfl⟩; refine At.thaw w5 ?_; refine At.HO.back (.c (.s (.s (.s (.s (.s (.s (.s (.s (.s (.s (.s (.s (.s .z))))))))))))) (.c (.s (.s (.s (.s (.s (.s (.s (.s (.s (.s (.s (.s .z)))))))))))) (.c (.s (.s .z)) (.c (.s (.s .z)) (.c (.s (.s .z)) (.c (.s (.s .z)) (.c (.s (.s .z)) .n))))))) ?_; refine At.H.done (by kernel_rfl) ?_; refine At.drop .z ?_; exact At.of (d3 (x2, x3, x0, x1, w8, w9, w6, w7) trivial) trivial
                              ··refine At.HO.op rfl ?_
                                refine At.lit rfl (xo := [.tmp 115]) (ys := ([(⟨a1.1, a1.2⟩ : Q2)] : List Q2)) Q2.fl rfl rfl rfl rfl rfl rfl rfl rfl rfl rfl rfl (fun D3 D4 => ?_); refine At.HO.back (.c (.s (.s .z)) (.c (.s .z) (.c (.s (.s .z)) (.c (.s (.s .z)) (.c (.s (.s .z)) (.c (.s (.s .z)) (.c (.s (.s .z)) .n))))))) ?_; refine At.H.al [4] (Q7 ?_ Q8)
                                ··refine At.HO.op rfl ?_
                                  refine At.y (Y.load rfl rfl (.s (.s (.s .z))) rfl rfl rfl) rfl rfl rfl ?_; refine At.HO.back (.c (.s (.s .z)) (.c (.s .z) (.c (.s (.s .z)) (.c (.s (.s .z)) (.c (.s (.s .z)) (.c (.s (.s .z)) (.c (.s (.s .z)) .n))))))) ?_; refine At.H.tw 7 rfl (Y.ix (.s (.s (.s (.s (.s (.s .z)))))) rfl rfl rfl rfl rfl rfl O.1 O.2) rfl rfl rfl (.c (.s (.s .z)) (.c (.s .z) (.c (.s (.s .z)) (.c (.s (.s .z)) (.c (.s (.s .z)) (.c (.s (.s .z)) (.c (.s (.s .z)) .n))))))) ?_; refine At.H.tw 8 rfl (Y.ld (.s (.s (.s (.s (.s (.s .z)))))) (q := 0) rfl rfl O.1 O.2 rfl rfl rfl) rfl rfl rfl (.c (.s (.s .z)) (.c (.s .z) (.c (.s (.s .z)) (.c (.s (.s .z)) (.c (.s (.s .z)) (.c (.s (.s .z)) (.c (.s (.s .z)) .n))))))) ?_; refine At.H.al [14] (Q7 ?_ Q8)
                                  ··refine At.HO.op rfl ?_
                                    refine At.freeze .z fun D5 x4 x5 x6 x7 x8 => ?_; refine At.f12 (At.f12 (At.f12 (At.f12 (At.f12 (At.f12 (At.f12 (At.f12 ?_))))))); refine At.f12 (At.f12 (At.f12 ?_)); refine At.call rfl Q19.callee rfl rfl rfl (Q19.spec (RdS.mono x7 hr0_1) rfl hc0_1 rfl rfl rfl rfl rfl rfl x4 x5 x6 d2) ?_; rintro _ _ ⟨D6, x9, y0, y1, y2, y3, y4, D7, y5, y6, rfl, rfl, rfl, rfl⟩; refine At.thaw x8 ?_; refine At.HO.back (.c (.s (.s (.s (.s (.s (.s (.s (.s (.s (.s (.s (.s (.s .z))))))))))))) (.c (.s (.s (.s (.s (.s (.s (.s (.s (.s (.s (.s (.s .z)))))))))))) (.c (.s (.s .z)) (.c (.s (.s .z)) (.c (.s (.s .z)) (.c (.s (.s .z)) (.c (.s (.s .z)) .n))))))) ?_; refine At.H.done (by kernel_rfl) ?_; refine At.drop .z ?_; exact At.of (d3 (y5, y6, y3, y4, y1, y2, x9, y0) trivial) trivial
                         ··refine At.condF rfl (bn d1) ?_
                           refine At.skip ?_; refine At.ibn ?_; refine At.drop .z (At.drop .z ?_); obtain rfl := (bret j).symm; exact At.res (.inr rfl) rfl rfl ⟨I.length, A0_5, c0_5, C.length, A0_6, c0_6, D.length, A0_7, c0_7, J.length, A0_8, c0_8, rfl, rfl, rfl, rfl, rfl, rfl⟩
                       ··rcases bite j with ⟨d4, j⟩ | ⟨d4, j⟩
                         ··refine At.condT rfl (decide_eq_true d4) ?_
                           refine At.skip (At.thn ?_); exact fun a w e hs => f7 (decide ((gt E u).Kind = 10)) j a w (e.sub ⟨rfl, rfl, rfl, rfl, rfl, trivial⟩) hs
                         ··refine At.condF rfl (decide_eq_false d4) ?_
                           refine At.region (At.run 2 rfl (nT ?_)); exact fun a w e hs => f7 (decide ((gt E u).Kind = 11)) j a w (e.sub ⟨rfl, rfl, rfl, rfl, rfl, trivial⟩) hs
         ··rcases bite j with ⟨d5, j⟩ | ⟨d5, j⟩
           ··refine At.condT rfl (decide_eq_true d5) ?_
             refine At.skip (At.thn ?_); exact fun a w e hs => e6 (decide ((gt E u).Kind = 3)) j a w (e.sub ⟨rfl, rfl, rfl, rfl, rfl, rfl, trivial⟩) hs
           ··refine At.condF rfl (decide_eq_false d5) ?_
             refine At.region (At.run 2 rfl (nT ?_)); exact fun a w e hs => e6 (decide ((gt E u).Kind = 12)) j a w (e.sub ⟨rfl, rfl, rfl, rfl, rfl, rfl, trivial⟩) hs
     ··rcases bite j with ⟨d6, j⟩ | ⟨d6, j⟩
       ··refine At.condT rfl (decide_eq_true d6) ?_
         refine At.skip (At.thn ?_); exact fun a w e hs => e5 (decide ((gt E u).Kind = 1)) j a w (e.sub ⟨rfl, rfl, rfl, rfl, rfl, rfl, trivial⟩) hs
       ··refine At.condF rfl (decide_eq_false d6) ?_
         refine At.region (At.run 2 rfl (nT ?_)); exact fun a w e hs => e5 (decide ((gt E u).Kind = 2)) j a w (e.sub ⟨rfl, rfl, rfl, rfl, rfl, rfl, trivial⟩) hs

end Go.Bw
namespace Go.Bw
open Go Go.RowKit Go.Proofs
variable {R : Res} {Fr : List HProp} {b0 b0_1 b0_2 n1 c1 : Nat} {A1 : Option Addr}
noncomputable def Q59.l0b (G : Int) (I : List (Bs × Q4)) (J : List (Q10 × Q4)) (a1 : List Q1) (L : (List Int)) (M : (List Int)) (x : List (Q2 × Int)) (p : List Q2) (C D : List Int) (E : List (List Int)) (q : Int) : Option (((List (Q2 × Int)) × (List Q2) × (List Int) × (List Int) × (List (List Int)) × Int) ⊕ (((List (Q2 × Int)) × (List Q2) × (List Int) × (List Int) × (List (List Int))) ⊕ ((List Q2) × (List (List Int)) × (List Int) × (List Int) × Int))) :=
 if q < (p.length : Int) then
 if 200 < (p.length : Int) then
 upL (some (([] : List Q2), ([] : List (List Int)), ([] : List Int), ([] : List Int), 18))
 else
 if (0 : Int) ≤ q ∧ q < (p.length : Int) then
 (Q142.f G I J a1 L M x p C D E ((gt p q).State) ((gt p q).Node)).bind fun u =>
 nx (u.1, u.2.1, u.2.2.1, u.2.2.2.1, u.2.2.2.2, IntKind.i64.wrap (q + 1))
 else none
 else
 dn (.inl (x, p, C, D, E))
noncomputable def Q59.l0 (p : Int) (q : List (Bs × Q4)) (u : List (Q10 × Q4)) (a1 : List Q1) (x : (List Int)) (C : (List Int)) (D : List (Q2 × Int)) (E : List Q2) (G I : List Int) (J : List (List Int)) (L : Int) : Option (((List (Q2 × Int)) × (List Q2) × (List Int) × (List Int) × (List (List Int))) ⊕ ((List Q2) × (List (List Int)) × (List Int) × (List Int) × Int)) := iter (fun t_ : (List (Q2 × Int)) × (List Q2) × (List Int) × (List Int) × (List (List Int)) × Int => Q59.l0b p q u a1 x C t_.1 t_.2.1 t_.2.2.1 t_.2.2.2.1 t_.2.2.2.2.1 t_.2.2.2.2.2) (D, E, G, I, J, L)
noncomputable def Q59.f (p : Int) (q : List (Bs × Q4)) (u : List (Q10 × Q4)) (a1 : List Q1) (a2 : Int) : Option ((List Q2) × (List (List Int)) × (List Int) × (List Int) × Int) :=
 (Q102.f a1).bind fun E =>
 jn (
 if E = true then
 some (.inl (decide (a2 < 0)))
 else
 some (.inl true)) (fun (G : Bool) =>
 jn (
 if G = true then
 some (.inl true)
 else
 (Q123.f p q u).bind fun I =>
 some (.inl (decide (I ≤ a2)))) (fun (J : Bool) =>
 if J = true then
 some (([] : List Q2), ([] : List (List Int)), ([] : List Int), ([] : List Int), 1)
 else
 (Q52.f a1).bind fun x =>
 (Q39.f a1).bind fun C =>
 (Q107.f p q u a1 x C ([] : List (Q2 × Int)) ([] : List Q2) ([] : List Int) ([] : List Int) ([] : List (List Int)) a2 (IntKind.i64.wrap ((a1.length : Int) - 1))).bind fun D =>
 jn (Q59.l0 p q u a1 x C D.1 D.2.1 ([] : List Int) ([] : List Int) ([] : List (List Int)) 0) (fun (s_ : (List (Q2 × Int)) × (List Q2) × (List Int) × (List Int) × (List (List Int))) =>
 some (s_.2.1, s_.2.2.2.2, s_.2.2.2.1, s_.2.2.1, 0))))
theorem Q59.callee : Callee Tryz.prog 24 := ⟨_, Tryz.func24, by kernel_rfl, by kernel_rfl⟩
theorem Q59.spec {G a2 : Int} {C : List (Bs × Q4)} {D : List (Q10 × Q4)} {a1 : List Q1} (hr1 : RdS Q1.fl.rep R.heap A1 a1) (hn1 : a1.length = n1) (hc1 : n1 ≤ c1) (hg0 : RdS (Fl.int .u8).rep R.heap (some ⟨0, 0, none⟩) Tryz.gtab0) {r : (List Q2) × (List (List Int)) × (List Int) × (List Int) × Int} (j : Q59.f G C D a1 a2 = some r) :
 Spec Tryz.prog 24 [bp b0, .slice A1 n1 c1, i6 a2] R (pc b0 [i6 G, .map (some b0_1), .map (some b0_2)] 82 :: mapo Fl.bs.ov Q4.fl.av b0_1 C :: mapo Q10.fl.av Q4.fl.av b0_2 D :: Fr) (fun v l' => ∃ (b3 : Nat) (d7 : Option Addr) (d9 : Nat) (b4 : Nat) (e1 : Option Addr) (e2 : Nat) (b5 : Nat) (e3 : Option Addr) (e4 : Nat) (b6 : Nat) (e5 : Option Addr) (e6 : Nat), v = .tuple #[.agg #[.slice e5 b6 e6, .slice e3 b5 e4, .slice e1 b4 e2, .slice d7 b3 d9], i6 r.2.2.2.2] ∧ row (Fl.int .i64) 3 e5 b6 e6 r.2.2.2.1 :: row (Fl.int .i64) 3 e3 b5 e4 r.2.2.1 :: rows (Fl.int .i64) 3 39 e1 b4 e2 r.2.1 :: row Q2.fl 65 d7 b3 d9 r.1 :: pc b0 [i6 G, .map (some b0_1), .map (some b0_2)] 82 :: mapo Fl.bs.ov Q4.fl.av b0_1 C :: mapo Q10.fl.av Q4.fl.av b0_2 D :: Fr = l' ∧ r.1.length = b3 ∧ r.2.1.length = b4 ∧ r.2.2.1.length = b5 ∧ r.2.2.2.1.length = b6) := by
 subst hn1; refine Spec.of Tryz.func24 rfl rfl ?_; unfold Q59.f at j; have j := brun j; refine At.seq (At.region ?_); refine At.alloc rfl rfl rfl (fun N => ?_); refine At.run 1 rfl (nT (At.seq (sR 1 rfl ?_))); obtain ⟨n9, g0, j⟩ := bbind j; refine At.call rfl Q102.callee rfl rfl rfl (Q102.spec hr1 rfl hc1 g0) ?_; rintro _ _ ⟨rfl, rfl⟩; refine At.run 2 rfl ?_; obtain ⟨g1, g2, o0, j⟩ := bjoin j; let T1 : HProp := pc N [.slice none 0 0, .slice none 0 0, .slice none 0 0, .slice none 0 0] 59; let T2 : HProp := pc b0 [i6 G, .map (some b0_1), .map (some b0_2)] 82; refine At.joinO 3 (X := Bool) (fun O => [(0, bp b0), (1, .slice A1 a1.length c1), (2, i6 a2), (6, bp N), (16, .bool O)]) (fun O => T1 :: T2 :: mapo Fl.bs.ov Q4.fl.av b0_1 C :: mapo Q10.fl.av Q4.fl.av b0_2 D :: Fr) (fun O => g1 (.inl O) = some r) ?_ (fun e7 => ?_)
 ·rintro O j; have j := (g2 _).symm.trans j
  ·refine At.run 1 rfl ?_; obtain ⟨g3, g4, o7, j⟩ := bjoin j; refine At.joinO 5 (X := Bool) (fun U => [(0, bp b0), (1, .slice A1 a1.length c1), (2, i6 a2), (6, bp N), (22, .bool U)]) (fun U => T1 :: T2 :: mapo Fl.bs.ov Q4.fl.av b0_1 C :: mapo Q10.fl.av Q4.fl.av b0_2 D :: Fr) (fun U => g3 (.inl U) = some r) ?_ (fun e8 => ?_)
   ·rintro U j; have j := (g4 _).symm.trans j
    ·refine nT ?_; rcases bite j with ⟨b7, j⟩ | ⟨b7, j⟩
     ··refine At.condT rfl b7 ?_
       refine At.seq (At.region ?_); refine At.y (Y.build (is := []) (xo := []) (vs := []) (cs := [.slice none 0 0, .slice none 0 0, .slice none 0 0, .slice none 0 0]) rfl rfl rfl rfl rfl rfl) rfl rfl rfl ?_; refine At.store rfl rfl rfl rfl .z rfl rfl rfl (.c (.c (.c (.c .n)))) ?_; refine At.run 1 rfl (nT (At.ret (At.thr ?_))); refine At.nilRow (Fl.int .i64) 3 ?_; refine At.nilRow (Fl.int .i64) 3 ?_; refine At.nilRows (Fl.int .i64) 3 39 ?_; refine At.nilRow Q2.fl 65 ?_; refine At.resM (.inl rfl) rfl (RV.cell rfl rfl (.s (.s (.s (.s .z)))) rfl rfl rfl (RV.tmp rfl RV.nil)) ?_; refine At.drop (.s (.s (.s (.s .z)))) (At.f6 (At.f6 (At.f6 (At.f3 (At.f4 (At.f5 (At.f6 ?_))))))); cases bret j; exact fun a w e hs => ⟨_, ⟨0, none, 0, 0, none, 0, 0, none, 0, 0, none, 0, rfl, rfl, rfl, rfl, rfl, rfl⟩, hs⟩
     ··refine At.condF rfl (bn b7) ?_
       refine At.skip (At.thn (sR 3 rfl ?_)); obtain ⟨p, g5, j⟩ := bbind j; refine At.call rfl Q52.callee rfl rfl rfl (Q52.spec hr1 rfl hc1 g5) ?_; rintro _ _ ⟨o8, I, J, rfl, rfl, rfl⟩; refine At.run 1 rfl ?_; obtain ⟨u, g6, j⟩ := bbind j; refine At.call rfl Q39.callee rfl rfl rfl (Q39.spec hr1 rfl hc1 hg0 g6) ?_; rintro _ _ ⟨o9, L, M, rfl, rfl, rfl⟩; refine At.makeMap Q2.fl.av (Fl.int .i64).ov rfl rfl (fun E => ?_); refine At.y (Y.build (is := [0, 1, 2, 3, 4]) (xo := [.tmp 24, .tmp 25, .tmp 27, .tmp 29, .tmp 30]) (vs := [bp b0, .slice A1 a1.length c1, .slice I p.length J, .slice L u.length M, .map (some E)]) (cs := [bp b0, .slice A1 a1.length c1, .slice I p.length J, .slice L u.length M, .map (some E), .slice none 0 0, .slice none 0 0, .slice none 0 0, .slice none 0 0]) rfl rfl rfl rfl rfl rfl) rfl rfl rfl ?_; refine At.box rfl rfl (cs := [bp b0, .slice A1 a1.length c1, .slice I p.length J, .slice L u.length M, .map (some E), .slice none 0 0, .slice none 0 0, .slice none 0 0, .slice none 0 0]) rfl rfl (fun Z => ?_); refine At.run 1 rfl (nT (sR 5 rfl ?_)); refine At.y (Y.build (is := [0, 1]) (xo := [.tmp 34, .tmp 37]) (vs := [i6 a2, i6 (IntKind.i64.wrap ((a1.length : Int) - 1))]) (cs := [i6 a2, i6 (IntKind.i64.wrap ((a1.length : Int) - 1))]) rfl rfl rfl rfl rfl rfl) rfl rfl rfl ?_; refine At.nilRow Q2.fl 65 ?_; refine At.nilRow (Fl.int .i64) 3 ?_; refine At.nilRow (Fl.int .i64) 3 ?_; refine At.nilRows (Fl.int .i64) 3 39 ?_; refine At.f1 (At.f2 (At.f3 (At.f5 (At.f6 (At.f7 (At.f11 (At.f11 ?_))))))); refine At.f11 (At.f10 ?_); obtain ⟨b8, g7, j⟩ := bbind j; refine At.call rfl Q107.callee rfl rfl rfl (Q107.spec hr1 rfl hc1 rfl rfl rfl rfl rfl rfl g7) ?_; rintro _ _ ⟨p0, g8, g9, rfl, rfl, rfl⟩; refine nT (At.seq (sR 1 rfl (nT ?_))); refine At.block ?_; obtain ⟨h0, h1, h2, j⟩ := bjoin j; obtain ⟨e9, b9, f0⟩ := bsome j; clear j; unfold Q59.l0 at b9; obtain ⟨c4, V⟩ := Q14.1 b9; clear b9; let T3 : HProp := mapo Fl.bs.ov Q4.fl.av b0_1 C; let T4 : HProp := mapo Q10.fl.av Q4.fl.av b0_2 D; let T5 : HProp := row (Fl.int .u64) 28 I p.length J p; let T6 : HProp := row (Fl.int .i64) 3 L u.length M u; refine At.loopJ (X := (List (Q2 × Int)) × (List Q2) × (List Int) × (List Int) × (List (List Int)) × Int × Nat × (Option Addr) × Nat × Nat × (Option Addr) × Nat × Nat × (Option Addr) × Nat × Nat × (Option Addr) × Nat) (Y := (List (Q2 × Int)) × (List Q2) × (List Int) × (List Int) × (List (List Int)) × Nat × (Option Addr) × Nat × Nat × (Option Addr) × Nat × Nat × (Option Addr) × Nat × Nat × (Option Addr) × Nat) (e0 := 0) (fun s_ => [(6, bp N), (8, bp Z), (9, i6 s_.2.2.2.2.2.1)]) (fun s_ => pc Z [bp b0, .slice A1 a1.length c1, .slice I p.length J, .slice L u.length M, .map (some E), .slice s_.2.2.2.2.2.2.2.1 s_.2.2.2.2.2.2.1 (d8 s_).1, .slice (d8 s_).2.2.1 (d8 s_).2.1 (d8 s_).2.2.2.1, .slice (d8 s_).2.2.2.2.2.1 (d8 s_).2.2.2.2.1 (d8 s_).2.2.2.2.2.2.1, .slice (d8 (d8 s_)).1 (d8 s_).2.2.2.2.2.2.2.1 (d8 (d8 s_)).2] 101 :: T2 :: T3 :: T4 :: T5 :: T6 :: mapo Q2.fl.av (Fl.int .i64).ov E s_.1 :: row Q2.fl 65 s_.2.2.2.2.2.2.2.1 s_.2.2.2.2.2.2.1 (d8 s_).1 s_.2.1 :: row (Fl.int .i64) 3 (d8 s_).2.2.1 (d8 s_).2.1 (d8 s_).2.2.2.1 s_.2.2.1 :: row (Fl.int .i64) 3 (d8 s_).2.2.2.2.2.1 (d8 s_).2.2.2.2.1 (d8 s_).2.2.2.2.2.2.1 s_.2.2.2.1 :: rows (Fl.int .i64) 3 39 (d8 (d8 s_)).1 (d8 s_).2.2.2.2.2.2.2.1 (d8 (d8 s_)).2 s_.2.2.2.2.1 :: T1 :: Fr) (fun m_ => fun s_ => iterN (fun t_ : (List (Q2 × Int)) × (List Q2) × (List Int) × (List Int) × (List (List Int)) × Int => Q59.l0b G C D a1 p u t_.1 t_.2.1 t_.2.2.1 t_.2.2.2.1 t_.2.2.2.2.1 t_.2.2.2.2.2) m_ (s_.1, s_.2.1, s_.2.2.1, s_.2.2.2.1, s_.2.2.2.2.1, s_.2.2.2.2.2.1) = some e9 ∧ s_.2.1.length = s_.2.2.2.2.2.2.1 ∧ s_.2.2.1.length = (d8 s_).2.1 ∧ s_.2.2.2.1.length = (d8 s_).2.2.2.2.1 ∧ s_.2.2.2.2.1.length = (d8 s_).2.2.2.2.2.2.2.1) c4 (b8.1, b8.2.1, ([] : List Int), ([] : List Int), ([] : List (List Int)), 0, b8.2.1.length, g8, g9, 0, none, 0, 0, none, 0, 0, none, 0) ⟨V, rfl, rfl, rfl, rfl⟩ (fun s_ => [(6, bp N), (8, bp Z)]) (fun s_ => pc Z [bp b0, .slice A1 a1.length c1, .slice I p.length J, .slice L u.length M, .map (some E), .slice s_.2.2.2.2.2.2.1 s_.2.2.2.2.2.1 s_.2.2.2.2.2.2.2.1, .slice (d8 s_).2.1 (d8 s_).1 (d8 s_).2.2.1, .slice (d8 s_).2.2.2.2.1 (d8 s_).2.2.2.1 (d8 s_).2.2.2.2.2.1, .slice (d8 s_).2.2.2.2.2.2.2.1 (d8 s_).2.2.2.2.2.2.1 (d8 (d8 s_))] 101 :: T2 :: T3 :: T4 :: T5 :: T6 :: mapo Q2.fl.av (Fl.int .i64).ov E s_.1 :: row Q2.fl 65 s_.2.2.2.2.2.2.1 s_.2.2.2.2.2.1 s_.2.2.2.2.2.2.2.1 s_.2.1 :: row (Fl.int .i64) 3 (d8 s_).2.1 (d8 s_).1 (d8 s_).2.2.1 s_.2.2.1 :: row (Fl.int .i64) 3 (d8 s_).2.2.2.2.1 (d8 s_).2.2.2.1 (d8 s_).2.2.2.2.2.1 s_.2.2.2.1 :: rows (Fl.int .i64) 3 39 (d8 s_).2.2.2.2.2.2.2.1 (d8 s_).2.2.2.2.2.2.1 (d8 (d8 s_)) s_.2.2.2.2.1 :: T1 :: Fr) (fun s_ => h0 (.inl (s_.1, s_.2.1, s_.2.2.1, s_.2.2.2.1, s_.2.2.2.2.1)) = some r ∧ s_.2.1.length = s_.2.2.2.2.2.1 ∧ s_.2.2.1.length = (d8 s_).1 ∧ s_.2.2.2.1.length = (d8 s_).2.2.2.1 ∧ s_.2.2.2.2.1.length = (d8 s_).2.2.2.2.2.2.1) (fun a w e hs => ⟨e.sub ⟨rfl, rfl, rfl, trivial⟩, (by exact hs)⟩) ?_ (fun h3 => ?_)
       ·rintro ⟨p1, a0, a3, a4, a5, h4, c5, c6, h5, c7, c8, h6, c9, d0, h7, d1, d2⟩ ⟨j, h8, h9, k0, k1⟩; obtain rfl : a0.length = h4 := h8; obtain rfl : a3.length = h5 := h9; obtain rfl : a4.length = h6 := k0; obtain rfl : a5.length = h7 := k1; have j := (h1 _).symm.trans j
        ·refine At.ibx ?_; refine At.thn (At.seq ?_); refine At.still 9 (by kernel_rfl) ?_; refine At.Still.run 3 rfl ?_; refine At.Still.y (Y.load rfl rfl .z rfl rfl rfl) rfl rfl rfl ?_; refine At.Still.run 3 rfl ?_; refine At.Still.y (Y.load rfl rfl .z rfl rfl rfl) rfl rfl rfl ?_; refine At.Still.y (Y.build (is := [0, 1]) (xo := [.tmp 68, .tmp 72]) (vs := [.agg #[.slice c7 a3.length c8, .slice c9 a4.length d0, .slice d1 a5.length d2], .slice c5 a0.length c6]) (cs := [.slice c7 a3.length c8, .slice c9 a4.length d0, .slice d1 a5.length d2, .slice c5 a0.length c6]) rfl rfl rfl rfl rfl (by kernel_rfl)) rfl rfl rfl ?_; refine At.Still.nil ?_; refine At.store rfl rfl rfl rfl (.s (.s (.s (.s (.s (.s (.s (.s (.s (.s (.s .z))))))))))) rfl rfl rfl (.c (.c (.c (.c .n)))) ?_; refine At.run 1 rfl (nT (At.ret ?_)); refine At.resM (.inl rfl) rfl (RV.cell rfl rfl .z rfl rfl rfl (RV.tmp rfl RV.nil)) ?_; refine At.drop .z (At.drop .z (At.drop (.s (.s (.s .z))) (At.drop (.s (.s (.s .z))) (At.drop (.s (.s (.s .z))) (At.f2 (At.f2 (At.f2 ?_))))))); refine At.f3 (At.f6 (At.f6 (At.f6 ?_))); cases bret j; exact fun a w e hs => ⟨_, ⟨a0.length, c5, c6, a5.length, d1, d2, a4.length, c9, d0, a3.length, c7, c8, rfl, rfl, rfl, rfl, rfl, rfl⟩, hs⟩
       ·clear V c4; rintro c4 ⟨f8, a6, a7, a8, a9, f9, k2, k3, k4, k5, k6, k7, k8, k9, l5, l6, l7, l8⟩ ⟨V, l9, m0, m1, m2⟩; obtain rfl : a6.length = k2 := l9; obtain rfl : a7.length = k5 := m0; obtain rfl : a8.length = k8 := m1; obtain rfl : a9.length = l6 := m2; obtain ⟨m3, f_, m4, hf_, j⟩ := bit V; clear V; have j : (Q59.l0b G C D a1 p u f8 a6 a7 a8 a9 f9).bind _ = some e9 := j; unfold Q59.l0b at j
        ·refine At.seq (sR 4 rfl (At.y (Y.load rfl rfl .z rfl rfl rfl) rfl rfl rfl (At.run 2 rfl (nT ?_)))); rcases bite j with ⟨d3, j⟩ | ⟨d3, j⟩
         ··refine At.condT rfl (decide_eq_true d3) ?_
           refine At.skip (At.thn (At.seq ?_)); refine At.block ?_; refine At.seq (sR 3 rfl (At.y (Y.load rfl rfl .z rfl rfl rfl) rfl rfl rfl (At.run 2 rfl (nT ?_)))); rcases bite j with ⟨d4, j⟩ | ⟨d4, j⟩
           ··refine At.condT rfl (decide_eq_true d4) ?_
             refine At.seq (At.region ?_); refine At.y (Y.build (is := []) (xo := []) (vs := []) (cs := [.slice none 0 0, .slice none 0 0, .slice none 0 0, .slice none 0 0]) rfl rfl rfl rfl rfl rfl) rfl rfl rfl ?_; refine At.store rfl rfl rfl rfl (.s (.s (.s (.s (.s (.s (.s (.s (.s (.s (.s .z))))))))))) rfl rfl rfl (.c (.c (.c (.c .n)))) ?_; refine At.run 1 rfl (nT (At.ret (At.thr ?_))); refine At.ibr ?_; refine At.thr ?_; have j := bupL h2 f0 j; refine At.thr ?_; refine At.ibr ?_; refine At.thr ?_; refine At.nilRow (Fl.int .i64) 3 ?_; refine At.nilRow (Fl.int .i64) 3 ?_; refine At.nilRows (Fl.int .i64) 3 39 ?_; refine At.nilRow Q2.fl 65 ?_; refine At.resM (.inl rfl) rfl (RV.cell rfl rfl (.s (.s (.s (.s .z)))) rfl rfl rfl (RV.tmp rfl RV.nil)) ?_; refine At.drop (.s (.s (.s (.s .z)))) (At.drop (.s (.s (.s (.s .z)))) (At.drop (.s (.s (.s (.s (.s (.s (.s .z))))))) (At.drop (.s (.s (.s (.s (.s (.s (.s .z))))))) (At.drop (.s (.s (.s (.s (.s (.s (.s .z))))))) (At.drop (.s (.s (.s (.s (.s (.s (.s .z))))))) (At.drop (.s (.s (.s (.s (.s (.s (.s .z))))))) (At.drop (.s (.s (.s (.s (.s (.s (.s .z))))))) ?_))))))); refine At.drop (.s (.s (.s (.s (.s (.s (.s .z))))))) (At.f6 (At.f6 (At.f6 (At.f3 (At.f4 (At.f5 (At.f6 ?_))))))); cases bret j; exact fun a w e hs => ⟨_, ⟨0, none, 0, 0, none, 0, 0, none, 0, 0, none, 0, rfl, rfl, rfl, rfl, rfl, rfl⟩, hs⟩
           ··refine At.condF rfl (decide_eq_false d4) ?_
             refine At.skip (At.thn (At.region (At.run 4 rfl (At.y (Y.load rfl rfl .z rfl rfl rfl) rfl rfl rfl (At.run 1 rfl ?_))))); obtain ⟨b2, j⟩ := bnone j; refine At.y (Y.ix (.s (.s (.s (.s (.s (.s (.s .z))))))) rfl rfl rfl rfl rfl rfl b2.1 b2.2) rfl rfl rfl ?_; refine At.y (Y.ld (.s (.s (.s (.s (.s (.s (.s .z))))))) (q := 0) rfl rfl b2.1 b2.2 rfl rfl rfl) rfl rfl rfl ?_; obtain ⟨x, m5, j⟩ := bbind j; refine At.call rfl Q142.callee rfl rfl rfl (Q142.spec hr1 rfl hc1 rfl rfl rfl rfl rfl rfl hg0 m5) ?_; rintro _ _ ⟨p2, m6, m7, p3, m8, m9, p4, n2, n4, p5, n5, n6, rfl, rfl, rfl, rfl, rfl, rfl⟩; refine At.nil ?_; refine At.ibn ?_; refine At.thn (At.region (At.run 3 rfl (At.nil ?_))); have j := bnx hf_ j; exact fun a w e hs => ⟨m3, (x.1, x.2.1, x.2.2.1, x.2.2.2.1, x.2.2.2.2, IntKind.i64.wrap (f9 + 1), x.2.1.length, m6, m7, x.2.2.1.length, m8, m9, x.2.2.2.1.length, n2, n4, x.2.2.2.2.length, n5, n6), m4, ⟨j, rfl, rfl, rfl, rfl⟩, e.sub ⟨rfl, rfl, rfl, trivial⟩, hs⟩
         ··refine At.condF rfl (decide_eq_false d3) ?_
           refine At.exit ?_; refine At.the ?_; refine At.the ?_; exact fun a w e hs => h3 (f8, a6, a7, a8, a9, a6.length, k3, k4, a7.length, k6, k7, a8.length, k9, l5, a9.length, l7, l8) ⟨(bdn j f0), rfl, rfl, rfl, rfl⟩ a w (e.sub ⟨rfl, rfl, trivial⟩) hs
   ··rcases bite j with ⟨d5, j⟩ | ⟨d5, j⟩
     ··refine At.know (t := 17) rfl d5 ?_
       refine At.run 5 rfl ?_; exact At.of (e8 true j) ⟨rfl, rfl, rfl, rfl, rfl, trivial⟩
     ··refine At.know (t := 17) rfl (bn d5) ?_
       refine At.run 2 rfl (At.f3 (At.f3 (At.f3 ?_))); obtain ⟨n7, n8, j⟩ := bbind j; refine At.call rfl Q123.callee rfl rfl rfl (Q123.spec n8) ?_; rintro _ _ ⟨rfl, rfl⟩; refine At.run 2 rfl (At.f2 (At.f2 (At.f2 (At.f3 ?_)))); exact At.of (e8 (decide (n7 ≤ a2)) j) ⟨rfl, rfl, rfl, rfl, rfl, trivial⟩
 ··rcases bite j with ⟨d6, j⟩ | ⟨d6, j⟩
   ··refine At.know (t := 13) rfl (nf d6) ?_
     refine At.run 3 rfl ?_; exact At.of (e7 (decide (a2 < 0)) j) ⟨rfl, rfl, rfl, rfl, rfl, trivial⟩
   ··refine At.know (t := 13) rfl (nt (bn d6)) ?_
     refine At.run 3 rfl ?_; exact At.of (e7 true j) ⟨rfl, rfl, rfl, rfl, rfl, trivial⟩

noncomputable def Q61.f  : Option Bool :=
 (Q18.f ([115, 116, 97, 116, 101, 115, 32, 50, 10, 101, 100, 103, 101, 32, 48, 32, 97, 32, 49, 10] : Bs)).bind fun q =>
 (Q23.f q.2.2.2.2 q.2.1 q.2.2.1 q.2.2.2.1).bind fun u =>
 (Q118.f ([60, 97, 62, 112] : Bs)).bind fun x =>
 jn (
 if q.1.isNone = true then
 some (.inl (!x.1.isNone))
 else
 some (.inl true)) (fun (C : Bool) =>
 jn (
 if C = true then
 some (.inl true)
 else
 some (.inl u.isNone)) (fun (D : Bool) =>
 if D = true then
 some false
 else
 if u.isNone = false then
 (Q59.f ((u.getD default).states) ((u.getD default).holds) ((u.getD default).next) x.2 0).bind fun p =>
 jn (
 if p.2.2.2.2 = 0 then
 some (.inl (decide ((p.1.length : Int) = 2)))
 else
 some (.inl false)) (fun (E : Bool) =>
 jn (
 if E = true then
 if (0 : Int) ≤ 1 ∧ 1 < (p.1.length : Int) then
 some (.inl (decide ((gt p.1 1).State = 1) && (decide ((gt p.1 1).Node = 0) && true)))
 else none
 else
 some (.inl false)) (fun (G : Bool) =>
 jn (
 if G = true then
 some (.inl (decide ((p.2.2.1.length : Int) = 2)))
 else
 some (.inl false)) (fun (I : Bool) =>
 jn (
 if I = true then
 if (0 : Int) ≤ 1 ∧ 1 < (p.2.2.1.length : Int) then
 some (.inl (decide (gt p.2.2.1 1 = 1)))
 else none
 else
 some (.inl false)) (fun (J : Bool) =>
 some J))))
 else none))
theorem Q61.callee : Callee Tryz.prog 21 := ⟨_, Tryz.func21, by kernel_rfl, by kernel_rfl⟩
theorem Q61.spec (hg0 : RdS (Fl.int .u8).rep R.heap (some ⟨0, 0, none⟩) Tryz.gtab0) {r : Bool} (j : Q61.f  = some r) :
 Spec Tryz.prog 21 [] R (Fr) (fun v l' => v = .bool r ∧ Fr = l') := by
 refine Spec.of Tryz.func21 rfl rfl ?_; unfold Q61.f at j; have j := brun j; refine sR 1 rfl (nT (At.seq (At.region ?_))); obtain ⟨D, e1, j⟩ := bbind j; refine At.call rfl Q18.callee rfl rfl rfl (Q18.spec e1) ?_; rintro _ _ ⟨E, k5, e2, e3, k6, e4, e5, k7, e6, e7, rfl, rfl, rfl, rfl, rfl⟩; refine At.run 3 rfl ?_; refine At.alloc rfl rfl rfl (fun e8 => ?_); refine At.store rfl rfl rfl rfl .z rfl rfl rfl (.c (.c (.c (.c .n)))) ?_; refine At.run 1 rfl (nT (At.seq (At.region (At.y (Y.load rfl rfl .z rfl rfl rfl) rfl rfl rfl ?_)))); refine At.freeze (.s .z) fun k8 e9 f0 f3 f4 c7 => ?_; refine At.freeze (.s .z) fun k9 f5 f6 f7 c8 c9 => ?_; refine At.freezeGrow (.s .z) fun l5 f8 f9 g0 b5 d0 => ?_; obtain ⟨u, g1, j⟩ := bbind j; refine At.call rfl Q23.callee rfl rfl rfl (Q23.spec (RdS.mono (c8.trans b5) e9) f0 f3 (RdS.mono b5 f5) f6 f7 f8 f9 g0 g1) ?_; rintro _ _ ⟨a4, rfl, rfl⟩; refine At.run 1 rfl (nT (At.seq (At.region ?_))); obtain ⟨C, g2, j⟩ := bbind j; refine At.call rfl Q118.callee rfl rfl rfl (Q118.spec g2) ?_; rintro _ _ ⟨G, l6, a5, a6, rfl, rfl, rfl⟩; refine At.run 5 rfl (nT (At.seq (sR 1 rfl ?_))); refine At.y (Y.neOptI (.s (.s (.s (.s .z)))) rfl rfl rfl) rfl rfl rfl ?_; refine At.run 1 rfl ?_; obtain ⟨g3, g4, l7, j⟩ := bjoin j; let T7 : HProp := pc e8 [i6 D.2.2.2.2, .slice e2 D.2.1.length e3, .slice e4 D.2.2.1.length e5, .slice e6 D.2.2.2.1.length e7] 26; refine At.joinO 3 (X := Bool) (fun I => [(3, optp a4), (4, .slice a5 C.2.length a6), (23, .bool I)]) (fun I => row Q1.fl 33 a5 C.2.length a6 C.2 :: optb (Ow.fl Q3.fl) 121 G C.1 :: optb Q44.ow 82 a4 u :: T7 :: optb (Ow.fl Q3.fl) 121 E D.1 :: Fr) (fun I => g3 (.inl I) = some r) ?_ (fun d1 => ?_)
 ·rintro I j; have j := (g4 _).symm.trans j
  ·refine At.run 1 rfl ?_; obtain ⟨g5, g6, l8, j⟩ := bjoin j; refine At.joinO 3 (X := Bool) (fun J => [(3, optp a4), (4, .slice a5 C.2.length a6), (27, .bool J)]) (fun J => row Q1.fl 33 a5 C.2.length a6 C.2 :: optb (Ow.fl Q3.fl) 121 G C.1 :: optb Q44.ow 82 a4 u :: T7 :: optb (Ow.fl Q3.fl) 121 E D.1 :: Fr) (fun J => g5 (.inl J) = some r) ?_ (fun d2 => ?_)
   ·rintro J j; have j := (g6 _).symm.trans j
    ·refine nT ?_; rcases bite j with ⟨b6, j⟩ | ⟨b6, j⟩
     ··refine At.condT rfl b6 ?_
       refine sR 1 rfl (nT (At.ret (At.thr ?_))); refine At.thaw d0 ?_; refine At.thaw c9 ?_; refine At.thaw c7 ?_; refine At.drop .z (At.drop .z (At.drop .z (At.drop .z (At.drop .z (At.drop .z (At.drop .z (At.drop .z ?_))))))); cases bret j; exact At.res (.inl rfl) rfl rfl ⟨rfl, rfl⟩
     ··refine At.condF rfl (bn b6) ?_
       refine At.skip (At.thn (sR 2 rfl ?_)); obtain ⟨g7, j⟩ := bnone j; refine At.optOpen (.s (.s .z)) g7 (fun g8 g9 l9 => ?_); have h0 := j; subst g9; have j := h0; refine At.ownPair (T := Ow.fl (Fl.int .i64)) (U := ((Ow.mp Fl.bs.ov Q4.fl.av).pair (Ow.mp Q10.fl.av Q4.fl.av))) (x := ((u.getD default).states, (u.getD default).holds, (u.getD default).next)) (.s .z) ?_; rintro m0 m1 rfl; refine At.ownFl (F := (Fl.int .i64)) (x := (u.getD default).states) .z ?_; rintro rfl; refine At.ownPair (T := Ow.mp Fl.bs.ov Q4.fl.av) (U := (Ow.mp Q10.fl.av Q4.fl.av)) (x := ((u.getD default).holds, (u.getD default).next)) .z ?_; rintro m2 m3 rfl; refine At.ownMp (kv := Fl.bs.ov) (vv := Q4.fl.av) (kvs := (u.getD default).holds) .z ?_; rintro d3 rfl; refine At.ownMp (kv := Q10.fl.av) (vv := Q4.fl.av) (kvs := (u.getD default).next) (.s .z) ?_; rintro d4 rfl; refine At.freeze (.s (.s (.s .z))) fun m4 h1 h2 h3 h4 h5 => ?_; refine At.f1 (At.f2 ?_); obtain ⟨p, h6, j⟩ := bbind j; refine At.call rfl Q59.callee rfl rfl rfl (Q59.spec h1 h2 h3 (RdS.mono (((f4.trans c8).trans b5).trans h4) hg0) h6) ?_; rintro _ _ ⟨m5, L, M, m6, N, O, m7, V, Z, m8, d5, d6, rfl, rfl, rfl, rfl, rfl, rfl⟩; refine At.run 3 rfl ?_; refine At.alloc rfl rfl rfl (fun a7 => ?_); refine At.store rfl rfl rfl rfl .z rfl rfl rfl (.c (.c (.c (.c .n)))) ?_; refine At.run 1 rfl (nT (sR 3 rfl ?_)); obtain ⟨h7, h8, m9, j⟩ := bjoin j; let T8 : HProp := pc a7 [.slice d5 p.2.2.2.1.length d6, .slice V p.2.2.1.length Z, .slice N p.2.1.length O, .slice L p.1.length M] 59; let T9 : HProp := row (Fl.int .i64) 3 d5 p.2.2.2.1.length d6 p.2.2.2.1; let a8 : HProp := pc g8 [i6 ((u.getD default).states), .map (some d3), .map (some d4)] 82; let a9 : HProp := mapo Fl.bs.ov Q4.fl.av d3 ((u.getD default).holds); let b2 : HProp := mapo Q10.fl.av Q4.fl.av d4 ((u.getD default).next); refine At.joinO 5 (X := Bool) (fun a0 => [(6, bp a7), (41, .bool a0)]) (fun a0 => T8 :: T9 :: row (Fl.int .i64) 3 V p.2.2.1.length Z p.2.2.1 :: rows (Fl.int .i64) 3 39 N p.2.1.length O p.2.1 :: row Q2.fl 65 L p.1.length M p.1 :: a8 :: a9 :: b2 :: optb (Ow.fl Q3.fl) 121 G C.1 :: T7 :: optb (Ow.fl Q3.fl) 121 E D.1 :: Fr) (fun a0 => h7 (.inl a0) = some r) ?_ (fun d7 => ?_)
       ·rintro a0 j; have j := (h8 _).symm.trans j
        ·refine At.run 1 rfl ?_; obtain ⟨h9, k0, n2, j⟩ := bjoin j; refine At.joinO 7 (X := Bool) (fun a1 => [(6, bp a7), (49, .bool a1)]) (fun a1 => T8 :: T9 :: row (Fl.int .i64) 3 V p.2.2.1.length Z p.2.2.1 :: rows (Fl.int .i64) 3 39 N p.2.1.length O p.2.1 :: row Q2.fl 65 L p.1.length M p.1 :: a8 :: a9 :: b2 :: optb (Ow.fl Q3.fl) 121 G C.1 :: T7 :: optb (Ow.fl Q3.fl) 121 E D.1 :: Fr) (fun a1 => h9 (.inl a1) = some r) ?_ (fun d8 => ?_)
         ·rintro a1 j; have j := (k0 _).symm.trans j
          ·refine At.run 1 rfl ?_; obtain ⟨k1, k2, n4, j⟩ := bjoin j; refine At.joinO 6 (X := Bool) (fun a2 => [(6, bp a7), (56, .bool a2)]) (fun a2 => T8 :: T9 :: row (Fl.int .i64) 3 V p.2.2.1.length Z p.2.2.1 :: rows (Fl.int .i64) 3 39 N p.2.1.length O p.2.1 :: row Q2.fl 65 L p.1.length M p.1 :: a8 :: a9 :: b2 :: optb (Ow.fl Q3.fl) 121 G C.1 :: T7 :: optb (Ow.fl Q3.fl) 121 E D.1 :: Fr) (fun a2 => k1 (.inl a2) = some r) ?_ (fun d9 => ?_)
           ·rintro a2 j; have j := (k2 _).symm.trans j
            ·refine At.run 1 rfl ?_; obtain ⟨k3, k4, n5, j⟩ := bjoin j; refine At.joinO 7 (X := Bool) (fun a3 => [(64, .bool a3)]) (fun a3 => T8 :: T9 :: row (Fl.int .i64) 3 V p.2.2.1.length Z p.2.2.1 :: rows (Fl.int .i64) 3 39 N p.2.1.length O p.2.1 :: row Q2.fl 65 L p.1.length M p.1 :: a8 :: a9 :: b2 :: optb (Ow.fl Q3.fl) 121 G C.1 :: T7 :: optb (Ow.fl Q3.fl) 121 E D.1 :: Fr) (fun a3 => k3 (.inl a3) = some r) ?_ (fun e0 => ?_)
             ·rintro a3 j; have j := (k4 _).symm.trans j
              ·refine At.run 1 rfl (nT (At.ret ?_)); refine At.thaw h5 ?_; refine At.thaw d0 ?_; refine At.thaw c9 ?_; refine At.thaw c7 ?_; refine At.drop .z (At.drop .z (At.drop .z (At.drop .z (At.drop .z (At.drop .z (At.drop .z (At.drop .z ?_))))))); refine At.drop .z (At.drop .z (At.drop .z (At.drop .z (At.drop .z (At.drop .z (At.drop .z ?_)))))); cases bret j; exact At.res (.inl rfl) rfl rfl ⟨rfl, rfl⟩
             ··rcases bite j with ⟨b7, j⟩ | ⟨b7, j⟩
               ··refine At.know (t := 57) rfl b7 ?_
                 refine At.run 2 rfl (At.y (Y.load rfl rfl .z rfl rfl rfl) rfl rfl rfl ?_); obtain ⟨b3, j⟩ := bnone j; refine At.y (Y.ix (.s (.s .z)) rfl rfl rfl rfl rfl rfl b3.1 b3.2) rfl rfl rfl (At.y (Y.ld (.s (.s .z)) (q := 0) rfl rfl b3.1 b3.2 rfl rfl rfl) rfl rfl rfl (At.run 2 rfl ?_)); exact At.of (e0 (decide (gt p.2.2.1 1 = 1)) j) ⟨rfl, trivial⟩
               ··refine At.know (t := 57) rfl (bn b7) ?_
                 refine At.run 7 rfl ?_; exact At.of (e0 false j) ⟨rfl, trivial⟩
           ··rcases bite j with ⟨b8, j⟩ | ⟨b8, j⟩
             ··refine At.know (t := 50) rfl b8 ?_
               refine At.run 2 rfl (At.y (Y.load rfl rfl .z rfl rfl rfl) rfl rfl rfl (At.run 3 rfl ?_)); exact At.of (d9 (decide ((p.2.2.1.length : Int) = 2)) j) ⟨rfl, rfl, trivial⟩
             ··refine At.know (t := 50) rfl (bn b8) ?_
               refine At.run 6 rfl ?_; exact At.of (d9 false j) ⟨rfl, rfl, trivial⟩
         ··rcases bite j with ⟨b9, j⟩ | ⟨b9, j⟩
           ··refine At.know (t := 42) rfl b9 ?_
             refine At.run 1 rfl (At.y (Y.load rfl rfl .z rfl rfl rfl) rfl rfl rfl ?_); obtain ⟨b4, j⟩ := bnone j; refine At.y (Y.ix (.s (.s (.s (.s .z)))) rfl rfl rfl rfl rfl rfl b4.1 b4.2) rfl rfl rfl ?_; refine At.y (Y.ld (.s (.s (.s (.s .z)))) (q := 0) rfl rfl b4.1 b4.2 rfl rfl rfl) rfl rfl rfl ?_; refine At.y (Y.build (is := [0, 1]) (xo := [.const (i6 1), .const (i6 0)]) (vs := [i6 1, i6 0]) (cs := [i6 1, i6 0]) rfl rfl rfl rfl rfl rfl) rfl rfl rfl ?_; refine At.y (Y.eqSt (xs := [i6 ((gt p.1 1).State), i6 ((gt p.1 1).Node)]) (ys := [i6 1, i6 0]) rfl rfl rfl rfl (by kernel_rfl) (by kernel_rfl) (by kernel_rfl) rfl) rfl rfl rfl ?_; refine At.run 1 rfl ?_; exact At.of (d8 (decide ((gt p.1 1).State = 1) && (decide ((gt p.1 1).Node = 0) && true)) j) ⟨rfl, rfl, trivial⟩
           ··refine At.know (t := 42) rfl (bn b9) ?_
             refine At.run 7 rfl ?_; exact At.of (d8 false j) ⟨rfl, rfl, trivial⟩
       ··rcases bite j with ⟨c4, j⟩ | ⟨c4, j⟩
         ··refine At.know (t := 36) rfl (decide_eq_true c4) ?_
           refine At.run 1 rfl (At.y (Y.load rfl rfl .z rfl rfl rfl) rfl rfl rfl (At.run 3 rfl ?_)); exact At.of (d7 (decide ((p.1.length : Int) = 2)) j) ⟨rfl, rfl, trivial⟩
         ··refine At.know (t := 36) rfl (decide_eq_false c4) ?_
           refine At.run 5 rfl ?_; exact At.of (d7 false j) ⟨rfl, rfl, trivial⟩
   ··rcases bite j with ⟨c5, j⟩ | ⟨c5, j⟩
     ··refine At.know (t := 24) rfl c5 ?_
       refine At.run 3 rfl ?_; exact At.of (d2 true j) ⟨rfl, rfl, rfl, trivial⟩
     ··refine At.know (t := 24) rfl (bn c5) ?_
       refine At.run 1 rfl ?_; refine At.y (Y.eqOpt (.s (.s .z)) rfl rfl rfl rfl) rfl rfl rfl ?_; refine At.run 1 rfl ?_; exact At.of (d2 u.isNone j) ⟨rfl, rfl, rfl, trivial⟩
 ··rcases bite j with ⟨c6, j⟩ | ⟨c6, j⟩
   ··refine At.know (t := 20) rfl (nf c6) ?_
     refine At.run 1 rfl ?_; refine At.y (Y.neOptI (.s .z) rfl rfl rfl) rfl rfl rfl ?_; refine At.run 1 rfl ?_; exact At.of (d1 (!C.1.isNone) j) ⟨rfl, rfl, rfl, trivial⟩
   ··refine At.know (t := 20) rfl (nt (bn c6)) ?_
     refine At.run 3 rfl ?_; exact At.of (d1 true j) ⟨rfl, rfl, rfl, trivial⟩

end Go.Bw
namespace Go.Bw
open Go Go.RowKit Go.Proofs
variable {R : Res} {Fr : List HProp} {A0 A0_0 A0_1 A0_2 A0_3 : Option Addr} {n0 c0 n0_0 c0_0 n0_1 c0_1 n0_2 c0_2 n0_3 c0_3 : Nat}
noncomputable def Q34.l0b (a0 : List Q2) (q u p : Int) : Option ((Int) ⊕ ((Unit) ⊕ (Int))) :=
 if p < (a0.length : Int) then
 if (0 : Int) ≤ p ∧ p < (a0.length : Int) then
 if (decide (q = (gt a0 p).State) && (decide (u = (gt a0 p).Node) && true)) = true then
 upL (some p)
 else
 nx (IntKind.i64.wrap (p + 1))
 else none
 else
 dn (.inl ())
noncomputable def Q34.l0 (a0 : List Q2) (p q u : Int) : Option ((Unit) ⊕ (Int)) := iter (fun t_ : Int => Q34.l0b a0 p q t_) u
noncomputable def Q34.f (a0 : List Q2) (p q : Int) : Option Int :=
 jn (Q34.l0 a0 p q 0) (fun (_ : Unit) =>
 some (-1))
theorem Q34.callee : Callee Tryz.prog 54 := ⟨_, Tryz.func54, by kernel_rfl, by kernel_rfl⟩
theorem Q34.spec {a0 : List Q2} {u x : Int} (hr0 : RdS Q2.fl.rep R.heap A0 a0) (hn0 : a0.length = n0) (hc0 : n0 ≤ c0) {r : Int} (j : Q34.f a0 u x = some r) :
 Spec Tryz.prog 54 [.slice A0 n0 c0, .agg #[i6 u, i6 x]] R (Fr) (fun v l' => v = i6 r ∧ Fr = l') := by
 subst hn0; refine Spec.of Tryz.func54 rfl rfl ?_; unfold Q34.f at j; have j := brun j; refine At.seq (At.region ?_); refine At.box rfl rfl (cs := [i6 u, i6 x]) rfl rfl (fun L => ?_); refine At.run 1 rfl (nT (At.seq (sR 3 rfl (At.nil ?_)))); refine At.thn ?_; refine At.block ?_; obtain ⟨O, U, V, j⟩ := bjoin j; obtain ⟨M, E, N⟩ := bsome j; clear j; unfold Q34.l0 at E; obtain ⟨G, C⟩ := Q14.1 E; clear E; let T1 : HProp := pc L [i6 u, i6 x] 65; refine At.loopJ (X := Int) (Y := Unit) (e0 := 0) (fun p => [(0, .slice A0 a0.length c0), (3, bp L), (7, i6 (a0.length : Int)), (8, i6 p)]) (fun p => T1 :: Fr) (fun m_ => fun p => iterN (fun t_ : Int => Q34.l0b a0 u x t_) m_ p = some M) G 0 C (fun _ => []) (fun _ => T1 :: Fr) (fun _ => O (.inl ()) = some r) (fun a w e hs => ⟨e.sub ⟨rfl, rfl, rfl, rfl, trivial⟩, (by exact hs)⟩) ?_ (fun Z => ?_)
 ·rintro _ j; have j := (U _).symm.trans j
  ·refine At.ibx ?_; refine At.thn (sR 1 rfl (nT (At.ret (At.drop .z ?_)))); cases bret j; exact At.res (.inl rfl) rfl rfl ⟨rfl, rfl⟩
 ·clear C G; rintro G p C; obtain ⟨a1, f_, a2, hf_, j⟩ := bit C; clear C; have j : (Q34.l0b a0 u x p).bind _ = some M := j; unfold Q34.l0b at j
  ·refine sR 1 rfl (nT (At.seq ?_)); rcases bite j with ⟨I, j⟩ | ⟨I, j⟩
   ··refine At.condT rfl (decide_eq_true I) ?_
     refine At.skip (At.thn (At.seq ?_)); refine At.block ?_; refine sR 2 rfl (nT (At.seq ?_)); refine At.quiet (by kernel_rfl) ?_; refine At.Quiet.y (Y.load rfl rfl .z rfl rfl rfl) rfl rfl rfl ?_; refine At.Quiet.run 2 rfl ?_; obtain ⟨D, j⟩ := bnone j; refine At.Quiet.y (Y.ixRd hr0 rfl rfl rfl rfl rfl rfl rfl D.1 D.2) rfl rfl rfl ?_; refine At.Quiet.y (Y.ldFl hr0 rfl (q := 0) rfl rfl D.1 D.2 rfl rfl rfl) rfl rfl rfl ?_; refine At.Quiet.y (Y.eqSt (xs := [i6 u, i6 x]) (ys := [i6 ((gt a0 p).State), i6 ((gt a0 p).Node)]) rfl rfl rfl rfl (by kernel_rfl) (by kernel_rfl) (by kernel_rfl) rfl) rfl rfl rfl ?_; refine At.Quiet.nil (At.thn ?_); rcases bite j with ⟨J, j⟩ | ⟨J, j⟩
     ··refine At.condT rfl J ?_
       refine sR 2 rfl (nT (At.ret ?_)); refine At.ibr ?_; refine At.thr ?_; have j := bupL V N j; refine At.thr ?_; refine At.ibr ?_; refine At.thr (At.drop .z ?_); cases bret j; exact At.res (.inl rfl) rfl rfl ⟨rfl, rfl⟩
     ··refine At.condF rfl (bn J) ?_
       refine At.skip ?_; refine At.ibn ?_; refine At.thn (At.region (At.run 2 rfl (At.nil ?_))); have j := bnx hf_ j; exact fun a w e hs => ⟨a1, (IntKind.i64.wrap (p + 1)), a2, j, e.sub ⟨rfl, rfl, rfl, rfl, trivial⟩, hs⟩
   ··refine At.condF rfl (decide_eq_false I) ?_
     refine At.exit ?_; refine At.the ?_; refine At.the ?_; exact fun a w e hs => Z () (bdn j N) a w (e.sub trivial) hs

noncomputable def Q119.f (C D : List Int) (E : List (List Int)) (p : List Q2) (q u : Int) : Option Int :=
 (Q34.f p q u).bind fun x =>
 some x
theorem Q119.callee : Callee Tryz.prog 28 := ⟨_, Tryz.func28, by kernel_rfl, by kernel_rfl⟩
theorem Q119.spec {p q : List Int} {u : List (List Int)} {x : List Q2} {C D : Int} (hr0_0 : RdS (Fl.int .i64).rep R.heap A0_0 p) (hn0_0 : p.length = n0_0) (hc0_0 : n0_0 ≤ c0_0) (hr0_1 : RdS (Fl.int .i64).rep R.heap A0_1 q) (hn0_1 : q.length = n0_1) (hc0_1 : n0_1 ≤ c0_1) (hr0_2 : RdS ((Fl.int .i64).rep).slice R.heap A0_2 u) (hn0_2 : u.length = n0_2) (hc0_2 : n0_2 ≤ c0_2) (hr0_3 : RdS Q2.fl.rep R.heap A0_3 x) (hn0_3 : x.length = n0_3) (hc0_3 : n0_3 ≤ c0_3) {r : Int} (j : Q119.f p q u x C D = some r) :
 Spec Tryz.prog 28 [.agg #[.slice A0_0 n0_0 c0_0, .slice A0_1 n0_1 c0_1, .slice A0_2 n0_2 c0_2, .slice A0_3 n0_3 c0_3], .agg #[i6 C, i6 D]] R (Fr) (fun v l' => v = i6 r ∧ Fr = l') := by
 subst hn0_0; subst hn0_1; subst hn0_2; subst hn0_3; refine Spec.of Tryz.func28 rfl rfl ?_; unfold Q119.f at j; have j := brun j; refine At.seq (At.region ?_); refine At.box rfl rfl (cs := [.slice A0_0 p.length c0_0, .slice A0_1 q.length c0_1, .slice A0_2 u.length c0_2, .slice A0_3 x.length c0_3]) rfl rfl (fun G => ?_); refine At.box rfl rfl (cs := [i6 C, i6 D]) rfl rfl (fun I => ?_); refine At.run 1 rfl (nT (sR 1 rfl (At.y (Y.load rfl rfl (.s .z) rfl rfl rfl) rfl rfl rfl (At.y (Y.load rfl rfl .z rfl rfl rfl) rfl rfl rfl ?_)))); obtain ⟨J, E, j⟩ := bbind j; refine At.call rfl Q34.callee rfl rfl rfl (Q34.spec hr0_3 rfl hc0_3 E) ?_; rintro _ _ ⟨rfl, rfl⟩; refine At.run 1 rfl (nT (At.ret (At.drop .z (At.drop .z ?_)))); cases bret j; exact At.res (.inl rfl) rfl rfl ⟨rfl, rfl⟩

noncomputable def Q42.l0b (a0 : List Q2) (q u p : Int) : Option ((Int) ⊕ ((Unit) ⊕ (Int))) :=
 if p < (a0.length : Int) then
 if (0 : Int) ≤ p ∧ p < (a0.length : Int) then
 if (decide ((gt a0 p).State = q) && (decide ((gt a0 p).Node = u) && true)) = true then
 upL (some p)
 else
 nx (IntKind.i64.wrap (p + 1))
 else none
 else
 dn (.inl ())
noncomputable def Q42.l0 (a0 : List Q2) (p q u : Int) : Option ((Unit) ⊕ (Int)) := iter (fun t_ : Int => Q42.l0b a0 p q t_) u
noncomputable def Q42.f (a0 : List Q2) (p q : Int) : Option Int :=
 jn (Q42.l0 a0 p q 0) (fun (_ : Unit) =>
 some (-1))
theorem Q42.callee : Callee Tryz.prog 44 := ⟨_, Tryz.func44, by kernel_rfl, by kernel_rfl⟩
theorem Q42.spec {a0 : List Q2} {u x : Int} (hr0 : RdS Q2.fl.rep R.heap A0 a0) (hn0 : a0.length = n0) (hc0 : n0 ≤ c0) {r : Int} (j : Q42.f a0 u x = some r) :
 Spec Tryz.prog 44 [.slice A0 n0 c0, .agg #[i6 u, i6 x]] R (Fr) (fun v l' => v = i6 r ∧ Fr = l') := by
 subst hn0; refine Spec.of Tryz.func44 rfl rfl ?_; unfold Q42.f at j; have j := brun j; refine At.seq (At.region ?_); refine At.box rfl rfl (cs := [i6 u, i6 x]) rfl rfl (fun L => ?_); refine At.run 1 rfl (nT (At.seq (sR 1 rfl (At.nil ?_)))); refine At.thn ?_; refine At.block ?_; obtain ⟨O, U, V, j⟩ := bjoin j; obtain ⟨M, E, N⟩ := bsome j; clear j; unfold Q42.l0 at E; obtain ⟨G, C⟩ := Q14.1 E; clear E; let T2 : HProp := pc L [i6 u, i6 x] 65; refine At.loopJ (X := Int) (Y := Unit) (e0 := 0) (fun p => [(0, .slice A0 a0.length c0), (3, bp L), (5, i6 p)]) (fun p => T2 :: Fr) (fun m_ => fun p => iterN (fun t_ : Int => Q42.l0b a0 u x t_) m_ p = some M) G 0 C (fun _ => []) (fun _ => T2 :: Fr) (fun _ => O (.inl ()) = some r) (fun a w e hs => ⟨e.sub ⟨rfl, rfl, rfl, trivial⟩, (by exact hs)⟩) ?_ (fun Z => ?_)
 ·rintro _ j; have j := (U _).symm.trans j
  ·refine At.ibx ?_; refine At.thn (sR 1 rfl (nT (At.ret (At.drop .z ?_)))); cases bret j; exact At.res (.inl rfl) rfl rfl ⟨rfl, rfl⟩
 ·clear C G; rintro G p C; obtain ⟨a1, f_, a2, hf_, j⟩ := bit C; clear C; have j : (Q42.l0b a0 u x p).bind _ = some M := j; unfold Q42.l0b at j
  ·refine At.seq (sR 4 rfl (nT ?_)); rcases bite j with ⟨I, j⟩ | ⟨I, j⟩
   ··refine At.condT rfl (decide_eq_true I) ?_
     refine At.skip (At.thn (At.seq ?_)); refine At.block ?_; refine At.seq ?_; refine At.quiet (by kernel_rfl) ?_; refine At.Quiet.run 2 rfl ?_; obtain ⟨D, j⟩ := bnone j; refine At.Quiet.y (Y.ixRd hr0 rfl rfl rfl rfl rfl rfl rfl D.1 D.2) rfl rfl rfl ?_; refine At.Quiet.y (Y.ldFl hr0 rfl (q := 0) rfl rfl D.1 D.2 rfl rfl rfl) rfl rfl rfl ?_; refine At.Quiet.y (Y.load rfl rfl .z rfl rfl rfl) rfl rfl rfl ?_; refine At.Quiet.y (Y.eqSt (xs := [i6 ((gt a0 p).State), i6 ((gt a0 p).Node)]) (ys := [i6 u, i6 x]) rfl rfl rfl rfl (by kernel_rfl) (by kernel_rfl) (by kernel_rfl) rfl) rfl rfl rfl ?_; refine At.Quiet.nil (At.thn ?_); rcases bite j with ⟨J, j⟩ | ⟨J, j⟩
     ··refine At.condT rfl J ?_
       refine sR 2 rfl (nT (At.ret ?_)); refine At.ibr ?_; refine At.thr ?_; have j := bupL V N j; refine At.thr ?_; refine At.ibr ?_; refine At.thr (At.drop .z ?_); cases bret j; exact At.res (.inl rfl) rfl rfl ⟨rfl, rfl⟩
     ··refine At.condF rfl (bn J) ?_
       refine At.skip ?_; refine At.ibn ?_; refine At.thn (At.region (At.run 3 rfl (At.nil ?_))); have j := bnx hf_ j; exact fun a w e hs => ⟨a1, (IntKind.i64.wrap (p + 1)), a2, j, e.sub ⟨rfl, rfl, rfl, trivial⟩, hs⟩
   ··refine At.condF rfl (decide_eq_false I) ?_
     refine At.exit ?_; refine At.the ?_; refine At.the ?_; exact fun a w e hs => Z () (bdn j N) a w (e.sub trivial) hs

noncomputable def Q122.f (C D : List Int) (E : List (List Int)) (p : List Q2) (q u : Int) : Option Int :=
 (Q42.f p q u).bind fun x =>
 some x
theorem Q122.callee : Callee Tryz.prog 29 := ⟨_, Tryz.func29, by kernel_rfl, by kernel_rfl⟩
theorem Q122.spec {p q : List Int} {u : List (List Int)} {x : List Q2} {C D : Int} (hr0_0 : RdS (Fl.int .i64).rep R.heap A0_0 p) (hn0_0 : p.length = n0_0) (hc0_0 : n0_0 ≤ c0_0) (hr0_1 : RdS (Fl.int .i64).rep R.heap A0_1 q) (hn0_1 : q.length = n0_1) (hc0_1 : n0_1 ≤ c0_1) (hr0_2 : RdS ((Fl.int .i64).rep).slice R.heap A0_2 u) (hn0_2 : u.length = n0_2) (hc0_2 : n0_2 ≤ c0_2) (hr0_3 : RdS Q2.fl.rep R.heap A0_3 x) (hn0_3 : x.length = n0_3) (hc0_3 : n0_3 ≤ c0_3) {r : Int} (j : Q122.f p q u x C D = some r) :
 Spec Tryz.prog 29 [.agg #[.slice A0_0 n0_0 c0_0, .slice A0_1 n0_1 c0_1, .slice A0_2 n0_2 c0_2, .slice A0_3 n0_3 c0_3], .agg #[i6 C, i6 D]] R (Fr) (fun v l' => v = i6 r ∧ Fr = l') := by
 subst hn0_0; subst hn0_1; subst hn0_2; subst hn0_3; refine Spec.of Tryz.func29 rfl rfl ?_; unfold Q122.f at j; have j := brun j; refine At.seq (At.region ?_); refine At.box rfl rfl (cs := [.slice A0_0 p.length c0_0, .slice A0_1 q.length c0_1, .slice A0_2 u.length c0_2, .slice A0_3 x.length c0_3]) rfl rfl (fun G => ?_); refine At.box rfl rfl (cs := [i6 C, i6 D]) rfl rfl (fun I => ?_); refine At.run 1 rfl (nT (sR 1 rfl (At.y (Y.load rfl rfl (.s .z) rfl rfl rfl) rfl rfl rfl (At.y (Y.load rfl rfl .z rfl rfl rfl) rfl rfl rfl ?_)))); obtain ⟨J, E, j⟩ := bbind j; refine At.call rfl Q42.callee rfl rfl rfl (Q42.spec hr0_3 rfl hc0_3 E) ?_; rintro _ _ ⟨rfl, rfl⟩; refine At.run 1 rfl (nT (At.ret (At.drop .z (At.drop .z ?_)))); cases bret j; exact At.res (.inl rfl) rfl rfl ⟨rfl, rfl⟩

noncomputable def Q51.l0b (q u : List Int) (x : List (List Int)) (C a1 : List Q2) (p : Int) : Option ((Int) ⊕ ((Unit) ⊕ (Bool))) :=
 if p < (a1.length : Int) then
 if (0 : Int) ≤ p ∧ p < (a1.length : Int) then
 (Q119.f q u x C ((gt a1 p).State) ((gt a1 p).Node)).bind fun D =>
 (Q122.f q u x C ((gt a1 p).State) ((gt a1 p).Node)).bind fun E =>
 if D = E then
 nx (IntKind.i64.wrap (p + 1))
 else
 upL (some false)
 else none
 else
 dn (.inl ())
noncomputable def Q51.l0 (p q : List Int) (u : List (List Int)) (x a1 : List Q2) (C : Int) : Option ((Unit) ⊕ (Bool)) := iter (fun t_ : Int => Q51.l0b p q u x a1 t_) C
noncomputable def Q51.f (p q : List Int) (u : List (List Int)) (x a1 : List Q2) : Option Bool :=
 (Q61.f ).bind fun C =>
 jn (Q51.l0 p q u x a1 0) (fun (_ : Unit) =>
 some C)
theorem Q51.spec (R : Res) (Fr : List HProp) (A0_0 : Option Addr) (n0_0 : Nat) (c0_0 : Nat) (A0_1 : Option Addr) (n0_1 : Nat) (c0_1 : Nat) (A0_2 : Option Addr) (n0_2 : Nat) (c0_2 : Nat) (A0_3 : Option Addr) (n0_3 : Nat) (c0_3 : Nat) (A1 : Option Addr) (n1 : Nat) (c1 : Nat) (u : List Int) (x : List Int) (C : List (List Int)) (D : List Q2) (a1 : List Q2) (hr0_0 : RdS (Fl.int .i64).rep R.heap A0_0 u) (hn0_0 : u.length = n0_0) (hc0_0 : n0_0 ≤ c0_0) (hr0_1 : RdS (Fl.int .i64).rep R.heap A0_1 x) (hn0_1 : x.length = n0_1) (hc0_1 : n0_1 ≤ c0_1) (hr0_2 : RdS ((Fl.int .i64).rep).slice R.heap A0_2 C) (hn0_2 : C.length = n0_2) (hc0_2 : n0_2 ≤ c0_2) (hr0_3 : RdS Q2.fl.rep R.heap A0_3 D) (hn0_3 : D.length = n0_3) (hc0_3 : n0_3 ≤ c0_3) (hr1 : RdS Q2.fl.rep R.heap A1 a1) (hn1 : a1.length = n1) (hc1 : n1 ≤ c1) (hg0 : RdS (Fl.int .u8).rep R.heap (some ⟨0, 0, none⟩) Tryz.gtab0) {r : Bool} (j : Q51.f u x C D a1 = some r) :
 Spec Tryz.prog 8 [.agg #[.slice A0_0 n0_0 c0_0, .slice A0_1 n0_1 c0_1, .slice A0_2 n0_2 c0_2, .slice A0_3 n0_3 c0_3], .slice A1 n1 c1] R (Fr) (fun v l' => v = .bool r ∧ Fr = l') := by
 subst hn0_0; subst hn0_1; subst hn0_2; subst hn0_3; subst hn1; refine Spec.of Tryz.func8 rfl rfl ?_; unfold Q51.f at j; have j := brun j; refine At.seq (At.region ?_); refine At.box rfl rfl (cs := [.slice A0_0 u.length c0_0, .slice A0_1 x.length c0_1, .slice A0_2 C.length c0_2, .slice A0_3 D.length c0_3]) rfl rfl (fun N => ?_); refine At.run 1 rfl (nT (At.seq (At.region ?_))); obtain ⟨O, Z, j⟩ := bbind j; refine At.call rfl Q61.callee rfl rfl rfl (Q61.spec hg0 Z) ?_; rintro _ _ ⟨rfl, rfl⟩; refine At.run 1 rfl (nT (At.seq (sR 1 rfl (At.nil ?_)))); refine At.thn ?_; refine At.block ?_; obtain ⟨a0, a2, a3, j⟩ := bjoin j; obtain ⟨U, I, V⟩ := bsome j; clear j; unfold Q51.l0 at I; obtain ⟨J, G⟩ := Q14.1 I; clear I; let T3 : HProp := pc N [.slice A0_0 u.length c0_0, .slice A0_1 x.length c0_1, .slice A0_2 C.length c0_2, .slice A0_3 D.length c0_3] 59; refine At.loopJ (X := Int) (Y := Unit) (e0 := 0) (fun E => [(1, .slice A1 a1.length c1), (2, bp N), (5, .bool O), (6, i6 E)]) (fun E => T3 :: Fr) (fun m_ => fun E => iterN (fun t_ : Int => Q51.l0b u x C D a1 t_) m_ E = some U) J 0 G (fun _ => [(5, .bool O)]) (fun _ => T3 :: Fr) (fun _ => a0 (.inl ()) = some r) (fun a w e hs => ⟨e.sub ⟨rfl, rfl, rfl, rfl, trivial⟩, (by exact hs)⟩) ?_ (fun a4 => ?_)
 ·rintro _ j; have j := (a2 _).symm.trans j
  ·refine At.ibx ?_; refine At.thn (sR 2 rfl (nT (At.ret (At.drop .z ?_)))); cases bret j; exact At.res (.inl rfl) rfl rfl ⟨rfl, rfl⟩
 ·clear G J; rintro J E G; obtain ⟨a5, f_, a6, hf_, j⟩ := bit G; clear G; have j : (Q51.l0b u x C D a1 E).bind _ = some U := j; unfold Q51.l0b at j
  ·refine At.seq (sR 4 rfl (nT ?_)); rcases bite j with ⟨L, j⟩ | ⟨L, j⟩
   ··refine At.condT rfl (decide_eq_true L) ?_
     refine At.skip (At.thn (At.seq ?_)); refine At.block ?_; refine At.seq ?_; refine At.quiet (by kernel_rfl) ?_; refine At.Quiet.y (Y.load rfl rfl .z rfl rfl rfl) rfl rfl rfl ?_; refine At.Quiet.run 2 rfl ?_; obtain ⟨p, j⟩ := bnone j; refine At.Quiet.y (Y.ixRd hr1 rfl rfl rfl rfl rfl rfl rfl p.1 p.2) rfl rfl rfl ?_; refine At.Quiet.y (Y.ldFl hr1 rfl (q := 0) rfl rfl p.1 p.2 rfl rfl rfl) rfl rfl rfl ?_; obtain ⟨a9, a7, j⟩ := bbind j; refine At.Quiet.call rfl Q119.callee rfl rfl rfl (Q119.spec hr0_0 rfl hc0_0 hr0_1 rfl hc0_1 hr0_2 rfl hc0_2 hr0_3 rfl hc0_3 a7) (fun _ _ h_ => ⟨h_.1, fun _ hs => h_.2 ▸ hs⟩) ?_; refine At.Quiet.y (Y.load rfl rfl .z rfl rfl rfl) rfl rfl rfl ?_; refine At.Quiet.run 2 rfl ?_; refine At.Quiet.y (Y.ixRd hr1 rfl rfl rfl rfl rfl rfl rfl p.1 p.2) rfl rfl rfl ?_; refine At.Quiet.y (Y.ldFl hr1 rfl (q := 0) rfl rfl p.1 p.2 rfl rfl rfl) rfl rfl rfl ?_; obtain ⟨b2, a8, j⟩ := bbind j; refine At.Quiet.call rfl Q122.callee rfl rfl rfl (Q122.spec hr0_0 rfl hc0_0 hr0_1 rfl hc0_1 hr0_2 rfl hc0_2 hr0_3 rfl hc0_3 a8) (fun _ _ h_ => ⟨h_.1, fun _ hs => h_.2 ▸ hs⟩) ?_; refine At.Quiet.run 1 rfl (At.Quiet.nil (At.thn ?_)); rcases bite j with ⟨M, j⟩ | ⟨M, j⟩
     ··refine At.condF rfl (nf (decide_eq_true M)) ?_
       refine At.skip ?_; refine At.ibn ?_; refine At.thn (At.region (At.run 3 rfl (At.nil ?_))); have j := bnx hf_ j; exact fun a w e hs => ⟨a5, (IntKind.i64.wrap (E + 1)), a6, j, e.sub ⟨rfl, rfl, rfl, rfl, trivial⟩, hs⟩
     ··refine At.condT rfl (nt (decide_eq_false M)) ?_
       refine sR 1 rfl (nT (At.ret ?_)); refine At.ibr ?_; refine At.thr ?_; have j := bupL a3 V j; refine At.thr ?_; refine At.ibr ?_; refine At.thr (At.drop .z ?_); cases bret j; exact At.res (.inl rfl) rfl rfl ⟨rfl, rfl⟩
   ··refine At.condF rfl (decide_eq_false L) ?_
     refine At.exit ?_; refine At.the ?_; refine At.the ?_; exact fun a w e hs => a4 () (bdn j V) a w (e.sub ⟨rfl, trivial⟩) hs

end Go.Bw
namespace Go.Bw
open Go Go.RowKit

def Ap {α : Type} (a b : Option α) : Prop := ∀ r, a = some r → b = some r
section
variable {α β σ τ ρ : Type}
theorem Ap.refl (a : Option α) : Ap a a := fun _ h => h
theorem Ap.none {b : Option α} : Ap Option.none b := fun _ h => by cases h
theorem Ap.bind {a b : Option α} {f g : α → Option β} (h : Ap a b) (k : ∀ t, Ap (f t) (g t)) : Ap (a.bind f) (b.bind g) := fun r e => by
 cases ha : a with
 | none => rw [ha] at e; cases e
 | some t => rw [ha] at e; rw [h t ha]; exact k t r e
theorem Ap.ite {c : Prop} [i : Decidable c] [j : Decidable c] {a b a' b' : Option α} (h : Ap a a') (k : Ap b b') : Ap (@_root_.ite _ c i a b) (@_root_.ite _ c j a' b') := fun r e => by
 by_cases hc : c
 ·rw [if_pos hc] at e ⊢; exact h r e
 ·rw [if_neg hc] at e ⊢; exact k r e
theorem Ap.jn {a b : Option (σ ⊕ ρ)} {f g : σ → Option ρ} (h : Ap a b) (k : ∀ t, Ap (f t) (g t)) : Ap (Bw.jn a f) (Bw.jn b g) := fun r e => by
 cases ha : a with
 | none => rw [ha] at e; cases e
 | some t =>
  rw [ha] at e
  rw [h t ha]
  cases t with
  | inl s => exact k s r e
  | inr o => exact e
theorem Ap.up {a b : Option ρ} (h : Ap a b) : Ap (Bw.up a : Option (σ ⊕ ρ)) (Bw.up b) := fun r e => by
 cases ha : a with
 | none => rw [ha] at e; cases e
 | some t => rw [ha] at e; rw [h t ha]; exact e
def iterC (fu : Nat) (body : σ → Option (σ ⊕ ρ)) (s : σ) : Option ρ := iterN body fu s
theorem Q237 {f g : σ → Option (σ ⊕ ρ)} (h : ∀ s, Ap (f s) (g s)) : ∀ {n : Nat} {s : σ}, Ap (iterN f n s) (iterN g n s)
 | 0, _ => fun _ e => by cases e
 | n + 1, s => fun r e => by
  unfold iterN at e ⊢
  cases hf : f s with
  | none => rw [hf] at e; cases e
  | some t =>
   rw [hf] at e
   rw [h s t hf]
   cases t with
   | inl s' => exact Q237 h r e
   | inr o => exact e
theorem Ap.iter {fu : Nat} {f g : σ → Option (σ ⊕ ρ)} {s : σ} (h : ∀ s, Ap (f s) (g s)) : Ap (iterC fu f s) (Bw.iter g s) := fun r e => Q14.2 ⟨fu, Q237 h r e⟩
theorem Q206 {f g : σ → α → Option σ} (h : ∀ s x, Ap (f s x) (g s x)) : ∀ {xs : List α} {s : σ}, Ap (foldO f s xs) (foldO g s xs)
 | [], _ => fun _ e => e
 | x :: xs, s => Ap.bind (h s x) fun t => Q206 h
def soloC (a : List α) : Option (List α) := if a.length ≤ 1 then some a else Option.none
theorem solo_mem {a r : List α} (h : soloC a = some r) : r = a ∧ (a = [] ∨ ∃ x, a = [x]) := by
 unfold soloC at h
 split at h
 ·rename_i hl
  refine ⟨(Option.some.inj h).symm, ?_⟩
  match a, hl with
  | [], _ => exact .inl rfl
  | [x], _ => exact .inr ⟨x, rfl⟩
  | _ :: _ :: _, hl => simp at hl
 ·cases h
end
end Go.Bw
