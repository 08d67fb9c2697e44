/- Maps of the call's own: told as lists of keys and values, each key once, in the order in which they came. Conditions: none. -/
import Derived.Test.YtbkooifhcekpmaaGreatBwGrow
import Derived.MapKept
set_option linter.unusedVariables false
set_option linter.unusedSimpArgs false
set_option linter.unusedSectionVars false
namespace Go.Bw
open Go Go.RowKit

theorem TypeOk.map {P : Program} {t : Nat} {i : TI} (h : TypeOk P t i) {k e : Nat} (hk : i.k = .map k e) : P.underlying t = some (.map k e) := by
  obtain ⟨d, hd, hk'⟩ := h.under; rw [hk] at hk'; cases d <;> simp [tk] at hk'; rw [hk'.1, hk'.2] at hd; exact hd
/-- A value of one cell, and one of several. -/
def Fl.ov {α : Type} (F : Fl α) (x : α) : Value := (F.enc x).headD .nilFunc
def Fl.av {α : Type} (F : Fl α) (x : α) : Value := .agg (F.enc x).toArray
section
variable {κ ν : Type}
def mget [DecidableEq κ] : List (κ × ν) → κ → Option ν
  | [], _ => none
  | p :: r, k => if p.1 = k then some p.2 else mget r k
def mset [DecidableEq κ] : List (κ × ν) → κ → ν → List (κ × ν)
  | [], k, v => [(k, v)]
  | p :: r, k, v => if p.1 = k then (k, v) :: r else p :: mset r k v
structure KeyOk (P : Program) (t : Nat) (kv : κ → Value) [DecidableEq κ] : Prop where
  chk : ∀ k w em, (Instr.checkKey em 10000 t (kv k)).run P w = .ok () w
  find : ∀ (es : List MapEntry) (ks : List κ) k w, es.map (·.key) = ks.map kv → (Instr.findKey t (kv k) es).run P w = .ok ((ks.findIdx? (fun a => decide (a = k))).bind fun i => es[i]?.map fun e => (i, e.val)) w
  same : ∀ k, Instr.sameBits 10000 (kv k) (kv k) = true
def mapo (kv : κ → Value) (vv : ν → Value) (b : Nat) (kvs : List (κ × ν)) : HProp := fun h =>
  ∃ (es : List MapEntry) (clock : Nat), h b = some (.map es.toArray clock) ∧ es.map (fun e => (e.key, e.val)) = kvs.map (fun p => (kv p.1, vv p.2)) ∧ es.Pairwise (fun x y => x.born < y.born) ∧ ∀ e ∈ es, e.born < clock
theorem findNow_str (s : Bs) : ∀ (es : List MapEntry) (ks : List Bs) (i : Nat), es.map (·.key) = ks.map (fun x => Value.string ⟨x.toArray⟩) →
    Instr.findNow .string (.string ⟨s.toArray⟩) es i = some ((ks.findIdx? (fun a => decide (a = s))).bind fun j => es[j]?.map fun e => (i + j, e.val))
  | [], [], _, _ => rfl
  | [], _ :: _, _, h => by simp at h
  | _ :: _, [], _, h => by simp at h
  | e :: es, k :: ks, i, h => by
    simp only [List.map_cons, List.cons.injEq] at h
    unfold Instr.findNow
    have hb : ((ByteArray.mk s.toArray) == (ByteArray.mk k.toArray)) = decide (k = s) := by
      rw [beq_bytes]
      by_cases hks : k = s
      · subst hks; rw [decide_eq_true rfl]; exact bseq_iff.2 rfl
      · rw [decide_eq_false hks]
        exact Bool.eq_false_iff.2 fun hc => hks (bseq_iff.1 hc).symm
    rw [h.1]
    simp only [Instr.sameNow, hb]
    rw [List.findIdx?_cons]
    by_cases hks : k = s
    · rw [decide_eq_true hks]
      simp
    · rw [decide_eq_false hks]
      simp only [Bool.false_eq_true, if_false]
      rw [findNow_str s es ks (i + 1) h.2]
      cases hf : ks.findIdx? (fun a => decide (a = s)) with
      | none => rfl
      | some j =>
        simp
        congr 1
        funext e
        congr 1
        omega
theorem KeyOk.str {P : Program} [Tys P] {t : Nat} {i : TI} (hi : ti P t = some i) (hk : i.k = .string) : KeyOk P t Fl.bs.ov := by
  have hu := (ti_ok hi).string hk
  refine ⟨fun k w em => ?_, fun es ks k w h => ?_, fun k => ?_⟩
  · exact MapKept.run_checkKey (k := .string ⟨k.toArray⟩) hu (by simp [MapKept.IsKey]) em 9999
  · have := findNow_str k es ks 0 h
    simp only [Nat.zero_add] at this
    exact MapKept.run_findKey (k := .string ⟨k.toArray⟩) hu this
  · show Instr.sameBits (9999 + 1) (.string ⟨k.toArray⟩) (.string ⟨k.toArray⟩) = true
    simp only [Instr.sameBits]
    rw [beq_bytes]
    exact bseq_iff.2 rfl
theorem findIdx_mget [DecidableEq κ] {kv : κ → Value} {vv : ν → Value} : ∀ {es : List MapEntry} {kvs : List (κ × ν)} {k : κ}, es.map (fun e => (e.key, e.val)) = kvs.map (fun p => (kv p.1, vv p.2)) →
    (((kvs.map (·.1)).findIdx? (fun a => decide (a = k))).bind fun i => es[i]?.map fun e => (i, e.val)).map (·.2) = (mget kvs k).map vv
  | [], [], _, _ => rfl
  | [], _ :: _, _, h => by simp at h
  | _ :: _, [], _, h => by simp at h
  | e :: es, p :: kvs, k, h => by
    simp only [List.map_cons, List.cons.injEq, Prod.mk.injEq] at h
    rw [List.map_cons, List.findIdx?_cons]
    unfold mget
    by_cases hk : p.1 = k
    · rw [if_pos hk, decide_eq_true hk]
      simp [h.1.2]
    · rw [if_neg hk, decide_eq_false hk]
      simp only [Bool.false_eq_true, if_false]
      rw [← findIdx_mget (k := k) h.2]
      cases (kvs.map (·.1)).findIdx? (fun a => decide (a = k)) with
      | none => rfl
      | some j => simp; rfl
theorem keys_map {kv : κ → Value} {vv : ν → Value} {es : List MapEntry} {kvs : List (κ × ν)} (h : es.map (fun e => (e.key, e.val)) = kvs.map (fun p => (kv p.1, vv p.2))) : es.map (·.key) = (kvs.map (·.1)).map kv := by
  have := congrArg (List.map (·.1)) h
  simpa [List.map_map, Function.comp_def] using this
end
section
variable {P : Program} [Tys P] {os : List Oper} {Q : Exit → Act → World → Prop} {rest : List Oper} {n : Nat} {ds : List Deferred} {R : Res} {env : List (Nat × Value)} {l l' : List HProp}
variable {d ty : Nat} {pos : String} {af : Array Edge} {g : Option (Nat × Bool)} {κ ν : Type} [DecidableEq κ] {kv : κ → Value} {vv : ν → Value} {kvs : List (κ × ν)} {b t kt et : Nat} {K : Act → World → Prop} {dd : Option Nat}
theorem sat_map {w : World} (hs : sat R (mapo kv vv b kvs :: l) w) : ∃ (es : List MapEntry) (clock : Nat), w.heap[b]? = some (.map es.toArray clock) ∧ es.map (fun e => (e.key, e.val)) = kvs.map (fun p => (kv p.1, vv p.2)) ∧ es.Pairwise (fun x y => x.born < y.born) ∧ ∀ e ∈ es, e.born < clock := by
  obtain ⟨h1, ⟨es, clock, a, r⟩, s⟩ := hs.head
  exact ⟨es, clock, s _ _ a, r⟩
theorem At.makeMap (kv : κ → Value) (vv : ν → Value) (hg : grd os env g = some true) (hd : Nat.blt d n = true)
    (h : ∀ b, At n ds R ((d, .map (some b)) :: env) (mapo kv vv b [] :: l) (wpList P os.toArray Q rest)) :
    At n ds R env l (wpList P os.toArray Q (⟨some d, .makeMap t none, ty, pos, af, g⟩ :: rest)) := op_ex hg rfl hd fun a w e hs => by
  refine ⟨_, _, _, ?_, (hs.alloc (.map #[] 0)).imp fun h p => ⟨[], 0, p, rfl, List.Pairwise.nil, fun e he => by cases he⟩, h _⟩
  simp [execOp, Instr.makeMap]
theorem run_lookup {w : World} {ii : TI} {z : ν} (hi : ti P t = some ii) (hk : ii.k = .map kt et) (ko : KeyOk P kt kv) (hz : ((P.info? et).bind fun x => x.zero) = some (vv z)) (hs : sat R (mapo kv vv b kvs :: l) w) (k : κ) (ok : Bool) :
    (Instr.lookup t (.map (some b)) (kv k) ok).run P w = .ok (if ok then .tuple #[vv ((mget kvs k).getD z), .bool (mget kvs k).isSome] else vv ((mget kvs k).getD z)) w := by
  obtain ⟨es, clock, hb, hm, _⟩ := sat_map hs
  have hu := (ti_ok hi).map hk
  have hf := ko.find es (kvs.map (·.1)) k w (keys_map hm)
  have hg := findIdx_mget (k := k) hm
  have hgo : (getObj b).run P w = .ok (.map es.toArray clock) w := MapKept.run_getObj_map hb
  simp only [Instr.lookup, Sem.run_bind, run_underlying hu, Result.andThen, hgo, Sem.run_pure, ko.chk, hf]
  cases hr : ((kvs.map (·.1)).findIdx? (fun a => decide (a = k))).bind fun i => es[i]?.map fun e => (i, e.val) with
  | none =>
    rw [hr] at hg
    have hgn : mget kvs k = none := by cases hq : mget kvs k with | none => rfl | some v => rw [hq] at hg; cases hg
    obtain ⟨x, hx, hx2⟩ := Option.bind_eq_some_iff.1 hz
    rw [hgn]
    cases ok <;> simp [zeroValue, typeInfo, hx, hx2]
  | some p =>
    obtain ⟨i, v⟩ := p
    rw [hr] at hg
    cases hq : mget kvs k with
    | none => rw [hq] at hg; cases hg
    | some v' =>
      rw [hq] at hg
      have hv : v = vv v' := by simpa using hg
      subst hv
      cases ok <;> simp
theorem Y.lookup {x y : Operand} {k : κ} {v : Value} {ii : TI} {z : ν} (f : Frt l (mapo kv vv b kvs) l') (hi : ti P t = some ii) (hk : ii.k = .map kt et) (ko : KeyOk P kt kv) (hz : ((P.info? et).bind fun x => x.zero) = some (vv z))
    (hx : ev env x = some (.map (some b))) (hy : ev env y = some v) (hv : v = kv k) :
    Y P n ds R env l ⟨dd, .lookup t x y false, ty, pos, af, g⟩ (vv ((mget kvs k).getD z)) := fun a w e hs => by
  subst hv
  have := run_lookup hi hk ko hz (hs.frt f) k false
  simp only [execOp, e.ev hx, e.ev hy, Sem.run_bind, this, Result.andThen, Sem.run_pure]
  rfl
theorem Y.lookupOk {x y : Operand} {k : κ} {v : Value} {ii : TI} {z : ν} (f : Frt l (mapo kv vv b kvs) l') (hi : ti P t = some ii) (hk : ii.k = .map kt et) (ko : KeyOk P kt kv) (hz : ((P.info? et).bind fun x => x.zero) = some (vv z))
    (hx : ev env x = some (.map (some b))) (hy : ev env y = some v) (hv : v = kv k) :
    Y P n ds R env l ⟨dd, .lookup t x y true, ty, pos, af, g⟩ (.tuple #[vv ((mget kvs k).getD z), .bool (mget kvs k).isSome]) := fun a w e hs => by
  subst hv
  have := run_lookup hi hk ko hz (hs.frt f) k true
  simp only [execOp, e.ev hx, e.ev hy, Sem.run_bind, this, Result.andThen, Sem.run_pure]
  rfl
theorem map_len {es : List MapEntry} (h : es.map (fun e => (e.key, e.val)) = kvs.map (fun p => (kv p.1, vv p.2))) : es.length = kvs.length := by
  have := congrArg List.length h
  simpa using this
theorem Y.lenMap {x : Operand} {ii : TI} (f : Frt l (mapo kv vv b kvs) l') (hi : ti P t = some ii) (hk : ii.k = .map kt et) (hx : ev env x = some (.map (some b))) :
    Y P n ds R env l ⟨dd, .call ⟨.builtin .len, #[x], #[t]⟩, ty, pos, af, g⟩ (.int .i64 (kvs.length : Int)) := fun a w e hs => by
  obtain ⟨es, clock, hb, hm, _⟩ := sat_map (hs.frt f)
  have hu := (ti_ok hi).map hk
  have hgo : (getObj b).run P w = .ok (.map es.toArray clock) w := MapKept.run_getObj_map hb
  simp [execOp, resolve, invoke, builtin, Builtin.len_, e.ev hx, run_underlying hu, hgo, Result.andThen, goInt, map_len hm]
theorem set_mset {es : List MapEntry} {kvs : List (κ × ν)} {k : κ} {v : ν} (h : es.map (fun e => (e.key, e.val)) = kvs.map (fun p => (kv p.1, vv p.2))) :
    (match ((kvs.map (·.1)).findIdx? (fun a => decide (a = k))).bind fun i => es[i]?.map fun e => (i, e.val) with
      | some (i, _) => (es.modify i fun e => { e with key := kv k, val := vv v }).map (fun e => (e.key, e.val))
      | none => es.map (fun e => (e.key, e.val)) ++ [(kv k, vv v)]) = (mset kvs k v).map (fun p => (kv p.1, vv p.2)) := by
  induction kvs generalizing es with
  | nil =>
    cases es with
    | nil => rfl
    | cons e es => simp at h
  | cons p kvs ih =>
    cases es with
    | nil => simp at h
    | cons e es =>
      simp only [List.map_cons, List.cons.injEq, Prod.mk.injEq] at h
      rw [List.map_cons, List.findIdx?_cons]
      unfold mset
      by_cases hk : p.1 = k
      · rw [if_pos hk, decide_eq_true hk]
        simp [h.2]
      · rw [if_neg hk, decide_eq_false hk]
        simp only [Bool.false_eq_true, if_false]
        have := ih h.2
        cases hf : (kvs.map (·.1)).findIdx? (fun a => decide (a = k)) with
        | none =>
          rw [hf] at this
          simp at this ⊢
          exact ⟨h.1, this⟩
        | some j =>
          rw [hf] at this
          simp at this ⊢
          have hj : j < es.length := by
            have := (List.findIdx?_eq_some_iff_getElem.1 hf).1
            simp at this
            have h3 := map_len h.2
            omega
          rw [List.getElem?_eq_getElem hj] at this ⊢
          simp at this ⊢
          exact ⟨h.1, this⟩
theorem born_modify {es : List MapEntry} {i : Nat} {f : MapEntry → MapEntry} (hf : ∀ e, (f e).born = e.born) : (es.modify i f).map (·.born) = es.map (·.born) := by
  apply List.ext_getElem?
  intro j
  rw [List.getElem?_map, List.getElem?_map, List.getElem?_modify]
  cases es[j]? with
  | none => rfl
  | some e => by_cases h : i = j <;> simp [h, hf]
theorem At.mapUpdate {x y z : Operand} {k : κ} {v : ν} {u u' : Value} {ii : TI} (hg : grd os env g = some true) (f : Frt l (mapo kv vv b kvs) l') (hi : ti P t = some ii) (hk : ii.k = .map kt et) (ko : KeyOk P kt kv)
    (hx : ev env x = some (.map (some b))) (hy : ev env y = some u) (hu : u = kv k) (hz : ev env z = some u') (hu' : u' = vv v)
    (h : At n ds R env (mapo kv vv b (mset kvs k v) :: l') (wpList P os.toArray Q rest)) :
    At n ds R env l (wpList P os.toArray Q (⟨none, .mapUpdate t x y z, ty, pos, af, g⟩ :: rest)) := op_sk hg rfl fun a w e hs => by
  subst hu hu'
  have hs1 := hs.frt f
  obtain ⟨es, clock, hb, hm, hbn, hcl⟩ := sat_map hs1
  have hun := (ti_ok hi).map hk
  have hf := ko.find es (kvs.map (·.1)) k w (keys_map hm)
  have hset := set_mset (k := k) (v := v) hm
  have hgo : (getObj b).run P w = .ok (.map es.toArray clock) w := MapKept.run_getObj_map hb
  have hso : ∀ o, (setObj b o).run P w = .ok () { w with heap := w.heap.setIfInBounds b o } := fun o => MapKept.run_setObj_map o hb
  have hlt : b < w.heap.size := (Array.getElem?_eq_some_iff.1 hb).1
  have fin : ∀ (es' : List MapEntry) (clock' : Nat), es'.map (fun e => (e.key, e.val)) = (mset kvs k v).map (fun p => (kv p.1, vv p.2)) → es'.Pairwise (fun x y => x.born < y.born) → (∀ e ∈ es', e.born < clock') →
      sat R (mapo kv vv b (mset kvs k v) :: l') { w with heap := w.heap.setIfInBounds b (.map es'.toArray clock') } := fun es' clock' h1 h2 h3 => by
    obtain ⟨hh, ⟨_, _, hp, _⟩, s, kk⟩ := hs1.upd
    refine kk _ (single b (.map es'.toArray clock')) _ ⟨es', clock', single_self _ _, h1, h2, h3⟩ rfl rfl rfl (Nat.le_refl _) (fun x o hx hn => ?_) (fun x o hx => ?_) (fun x o hx => ?_)
    · have hne : b ≠ x := fun hxb => by subst hxb; rw [hp] at hn; cases hn
      show (w.heap.setIfInBounds b _)[x]? = _
      rw [Array.getElem?_setIfInBounds_ne hne]; exact hx
    · obtain ⟨rfl, rfl⟩ := single_eq hx
      show (w.heap.setIfInBounds x _)[x]? = _
      simp [hlt]
    · obtain ⟨rfl, rfl⟩ := single_eq hx; exact .inl ⟨_, hp⟩
  cases hr : ((kvs.map (·.1)).findIdx? (fun a => decide (a = k))).bind fun i => es[i]?.map fun e => (i, e.val) with
  | none =>
    rw [hr] at hset hf
    refine ⟨_, _, ?_, fin (es ++ [{ key := kv k, val := vv v, born := clock }]) (clock + 1) (by simpa using hset) ?_ ?_, h⟩
    · simp [execOp, e.ev hx, e.ev hy, e.ev hz, Instr.mapUpdate, run_underlying hun, Result.andThen, hgo, ko.chk, hf, hso]
    · rw [List.pairwise_append]
      exact ⟨hbn, by simp, fun x hx y hy => by simp at hy; subst hy; exact hcl x hx⟩
    · intro e he
      rcases List.mem_append.1 he with he | he
      · have := hcl e he; omega
      · simp at he; subst he; exact Nat.lt_succ_self _
  | some p =>
    obtain ⟨i, v0⟩ := p
    rw [hr] at hset hf
    obtain ⟨j, hj, hj2⟩ := Option.bind_eq_some_iff.1 hr
    obtain ⟨e1, he1, he2⟩ := Option.map_eq_some_iff.1 hj2
    simp only [Prod.mk.injEq] at he2
    obtain ⟨rfl, rfl⟩ := he2
    have hkey : e1.key = kv k := by
      have hq := congrArg (fun l => l[j]?) (keys_map hm)
      simp only [List.getElem?_map, he1, Option.map_some] at hq
      obtain ⟨hl, hd, _⟩ := List.findIdx?_eq_some_iff_getElem.1 hj
      rw [← List.getElem?_map, List.getElem?_eq_getElem hl] at hq
      have hd' := of_decide_eq_true hd
      rw [hd'] at hq
      simpa using hq
    have hst : (Instr.keyThatStays (kv k) (kv k)).run P w = .ok (kv k) w := by simp [Instr.keyThatStays, ko.same]
    refine ⟨_, _, ?_, fin (es.modify j fun e => { e with key := kv k, val := vv v }) clock hset ?_ ?_, h⟩
    · simp only [execOp, e.ev hx, e.ev hy, e.ev hz, Instr.mapUpdate, Sem.run_bind, run_underlying hun, Result.andThen, hgo, ko.chk, hf, List.getElem?_toArray, he1, Option.map_some, hkey, Option.getD_some, hst, hso, Sem.run_pure]
      simp
    · have := born_modify (es := es) (i := j) (f := fun e => { e with key := kv k, val := vv v }) (fun _ => rfl)
      refine (List.pairwise_map (f := fun e : MapEntry => e.born) (R := fun x y : Nat => x < y)).1 ?_
      rw [this]
      exact List.pairwise_map.2 hbn
    · intro e he
      have hmem : e.born ∈ (es.modify j fun e => { e with key := kv k, val := vv v }).map (·.born) := List.mem_map_of_mem he
      rw [born_modify (es := es) (i := j) (f := fun e => { e with key := kv k, val := vv v }) (fun _ => rfl)] at hmem
      obtain ⟨e', he', hb'⟩ := List.mem_map.1 hmem
      rw [← hb']
      exact hcl e' he'
theorem mapo_up {h h' : PHeap} (o : mapo kv vv b kvs h) (s : Sub h h') : mapo kv vv b kvs h' := let ⟨es, c, a, r⟩ := o; ⟨es, c, s _ _ a, r⟩
def Ow.mp (kv : κ → Value) (vv : ν → Value) : Ow (List (κ × ν)) := ⟨1, fun kvs cs h => ∃ b, cs = [.map (some b)] ∧ mapo kv vv b kvs h, fun ⟨_, h, _⟩ => by rw [h]; rfl, fun ⟨_, h, _⟩ u hu => by rw [h] at hu; simp at hu; subst hu; rfl, by decide,
  ⟨1, fun H kvs cs => ∃ b, cs = [.map (some b)] ∧ mapo kv vv b kvs H, fun ⟨_, h, _⟩ => by rw [h]; rfl, fun s ⟨b, h, o⟩ => ⟨b, h, let ⟨es, c, a, r⟩ := o; ⟨es, c, s _ _ a, r⟩⟩, by decide⟩, rfl, fun ⟨b, h, o⟩ s => ⟨b, h, let ⟨es, c, a, r⟩ := o; ⟨es, c, s _ _ a, r⟩⟩⟩
theorem Ent.mp : Ent [mapo kv vv b kvs] ((Ow.mp kv vv).own kvs [.map (some b)]) := fun h ⟨h1, _, a, _, _, s, _⟩ => ⟨b, rfl, mapo_up a s⟩
theorem At.ownMp {cs : List Value} (f : Frt l ((Ow.mp kv vv).own kvs cs) l') (h : ∀ b, cs = [.map (some b)] → At n ds R env (mapo kv vv b kvs :: l') K) : At n ds R env l K := fun a w e0 hs => by
  obtain ⟨ok, k, ⟨h1, h2, ⟨b, e1, r⟩, s⟩, dR⟩ := hs.frt f
  exact h b e1 a w e0 ⟨ok, k, ⟨h1, h2, r, s⟩, dR⟩
end
end Go.Bw
