/- Structs of numbers, truths and strings as keys of maps. Conditions: none. -/
import Derived.Test.YtbkooifhcekpmaaGreatBwMap
set_option linter.unusedVariables false
set_option linter.unusedSimpArgs false
set_option linter.unusedSectionVars false
namespace Go.Bw
open Go Go.RowKit

theorem bytes_self (s : Bs) : ((ByteArray.mk s.toArray) == (ByteArray.mk s.toArray)) = true := by rw [beq_bytes]; exact bseq_iff.2 rfl
section
variable {P : Program} [Tys P] {κ : Type} [DecidableEq κ] {w : World} {t : Nat}
theorem run_check {xs : List Value} (em : Bool) : ∀ {fl : List Field} {fs : List (Nat × Nat)} {r : Bool}, fl.map (fun f => (f.type, f.offset)) = fs → eqcs P fs xs xs = some r →
    (do for f in fl do if f.name ≠ "_" then Instr.checkKey em 9999 f.type (← part f.type xs.toArray f.offset) : Sem Unit).run P w = .ok () w
  | [], _, r, rfl, h => by simp
  | f :: fl, _, r, rfl, h => by
    simp only [List.map_cons, eqcs] at h
    split at h
    · rename_i j hj
      split at h
      · rename_i hk hx hy
        split at h
        · obtain ⟨q, hq, rfl⟩ := Option.map_eq_some_iff.1 h
          have hu := (ti_ok hj).int hk
          have ih := run_check em (fl := fl) rfl hq
          have hc : ∀ k a, (Instr.checkKey em 9999 f.type (.int k a)).run P w = .ok () w := fun k a => by
            show (Instr.checkKey em (9998 + 1) f.type _).run P w = _
            rw [Instr.checkKey]
            simp [run_underlying hu, Result.andThen]
          by_cases hn : f.name = "_"
          · simpa [hn, Result.andThen] using ih
          · simpa [hn, run_part hx, hc, Result.andThen] using ih
        · cases h
      · rename_i hk hx hy
        obtain ⟨q, hq, rfl⟩ := Option.map_eq_some_iff.1 h
        have hu := (ti_ok hj).bool hk
        have ih := run_check em (fl := fl) rfl hq
        have hc : ∀ a, (Instr.checkKey em 9999 f.type (.bool a)).run P w = .ok () w := fun a => by
          show (Instr.checkKey em (9998 + 1) f.type _).run P w = _
          rw [Instr.checkKey]
          simp [run_underlying hu, Result.andThen]
        by_cases hn : f.name = "_"
        · simpa [hn, Result.andThen] using ih
        · simpa [hn, run_part hx, hc, Result.andThen] using ih
      · rename_i hk hx hy
        obtain ⟨q, hq, rfl⟩ := Option.map_eq_some_iff.1 h
        have hu := (ti_ok hj).string hk
        have ih := run_check em (fl := fl) rfl hq
        have hc : ∀ a, (Instr.checkKey em 9999 f.type (.string a)).run P w = .ok () w := fun a => by
          show (Instr.checkKey em (9998 + 1) f.type _).run P w = _
          rw [Instr.checkKey]
          simp [run_underlying hu, Result.andThen]
        by_cases hn : f.name = "_"
        · simpa [hn, Result.andThen] using ih
        · simpa [hn, run_part hx, hc, Result.andThen] using ih
      · cases h
    · cases h
theorem findAsking_eq {kv : κ → Value} (k : κ) (he : ∀ a, (Op.equal t (kv k) (kv a)).run P w = .ok (decide (a = k)) w) : ∀ (es : List MapEntry) (ks : List κ) (i : Nat), es.map (·.key) = ks.map kv →
    (Instr.findAsking t (kv k) es i).run P w = .ok ((ks.findIdx? (fun a => decide (a = k))).bind fun j => es[j]?.map fun e => (i + j, e.val)) w
  | [], [], i, _ => by simp [Instr.findAsking]
  | [], _ :: _, _, h => by simp at h
  | _ :: _, [], _, h => by simp at h
  | e :: es, a :: ks, i, h => by
    simp only [List.map_cons, List.cons.injEq] at h
    rw [Instr.findAsking, h.1]
    simp only [Sem.run_bind, he, Result.andThen]
    rw [List.findIdx?_cons]
    by_cases hk : a = k
    · simp [hk]
    · simp only [hk, decide_false, Bool.false_eq_true, if_false]
      rw [findAsking_eq k he es ks (i + 1) h.2]
      cases hf : ks.findIdx? (fun a => decide (a = k)) with
      | none => rfl
      | some j =>
        simp
        congr 1
        funext e
        congr 1
        omega
theorem findKey_st {kv : κ → Value} {fl : Array Field} (hu : P.underlying t = some (.struct fl)) (k : κ) (he : ∀ a, (Op.equal t (kv k) (kv a)).run P w = .ok (decide (a = k)) w) (es : List MapEntry) (ks : List κ) (h : es.map (·.key) = ks.map kv) :
    (Instr.findKey t (kv k) es).run P w = .ok ((ks.findIdx? (fun a => decide (a = k))).bind fun j => es[j]?.map fun e => (j, e.val)) w := by
  unfold Instr.findKey
  simp only [Sem.run_bind, run_underlying hu, Result.andThen]
  cases es with
  | nil =>
    cases ks with
    | nil => simp [Instr.findNow]
    | cons a ks => simp at h
  | cons e es =>
    have : Instr.findNow (.struct fl) (kv k) (e :: es) 0 = none := by simp [Instr.findNow, Instr.sameNow]
    rw [this]
    have := findAsking_eq (P := P) (w := w) (t := t) k he (e :: es) ks 0 h
    simpa using this
theorem KeyOk.st {F : Fl κ} {fs : List (Nat × Nat)} {ii : TI} (hi : ti P t = some ii) (hk : ii.k = .struct fs) (hn : named P t = true) (hp : P.stoodInHeld t = false)
    (he : ∀ x y : κ, eqcs P fs (F.enc x) (F.enc y) = some (decide (x = y))) (hs : ∀ x : κ, ((F.enc x).zip (F.enc x)).all (fun p => Instr.sameBits 9999 p.1 p.2) = true) : KeyOk P t F.av := by
  obtain ⟨fl, hu, hm⟩ := (ti_ok hi).struct hk
  refine ⟨fun k w em => ?_, fun es ks k w h => ?_, fun k => ?_⟩
  · show (Instr.checkKey em (9999 + 1) t (.agg (F.enc k).toArray)).run P w = _
    rw [Instr.checkKey]
    have := run_check (P := P) (w := w) em hm (he k k)
    simp only [Sem.run_bind, run_underlying hu, Result.andThen]
    rw [← Array.forIn_toList]
    simp [Result.andThen] at this ⊢
    rw [this]
  · refine findKey_st hu k (fun a => ?_) es ks h
    rw [show decide (a = k) = decide (k = a) from decide_eq_decide.2 eq_comm]
    exact run_eqSt hi hk hn hp (he k a)
  · show Instr.sameBits (9999 + 1) (.agg (F.enc k).toArray) (.agg (F.enc k).toArray) = true
    simp only [Instr.sameBits]
    simpa using hs k
end
end Go.Bw
