/- What an operation yields that asks nothing of memory: a function on tables of slots, and that it tells the truth. Conditions: none. -/
import Derived.Test.YtbkooifhcekpmaaGreatBwCore
import Derived.Deep.Quiet
import Derived.StillTail
set_option linter.unusedVariables false
set_option linter.unusedSimpArgs false
set_option linter.unusedSectionVars false
namespace Go.Bw
open Go Go.RowKit

/-! ### Types -/
inductive TK where
  | bool | int (k : IntKind) | string | slice (e : Nat) | array (n e : Nat) | struct (fs : List (Nat × Nat)) | pointer (e : Nat) | iface | func | map (k e : Nat) | other
def tk : TypeDesc → TK
  | .bool => .bool
  | .int k => .int k
  | .string => .string
  | .slice e => .slice e
  | .array n e => .array n e
  | .struct fs => .struct (fs.toList.map fun f => (f.type, f.offset))
  | .pointer e => .pointer e
  | .interface _ => .iface
  | .func .. => .func
  | .map k e => .map k e
  | _ => .other
structure TI where
  k : TK
  size : Nat
  bytes : Nat
  zero : List Value
structure TypeOk (P : Program) (t : Nat) (i : TI) : Prop where
  k : (P.underlying t).map tk = some i.k
  i : (P.info? t).map (fun x => (x.size, x.bytes, x.zero.map (·.cells.toList))) = some (i.size, i.bytes, some i.zero)
def AllOk (P : Program) : List (Nat × TI) → Prop
  | [] => True
  | x :: r => TypeOk P x.1 x.2 ∧ AllOk P r
def tlook : List (Nat × TI) → Nat → Option TI
  | [], _ => none
  | (k, v) :: r, t => match Nat.beq k t with | true => some v | false => tlook r t
class Tys (P : Program) where
  tt : List (Nat × TI)
  ok : AllOk P tt
def ti (P : Program) [Tys P] (t : Nat) : Option TI := tlook (Tys.tt P) t
theorem tlook_ok {P : Program} : ∀ {l : List (Nat × TI)}, AllOk P l → ∀ {t i}, tlook l t = some i → TypeOk P t i
  | [], _, _, _, e => by cases e
  | (k, v) :: r, h, t, i, e => by
    unfold tlook at e
    split at e
    · rename_i hb
      have : k = t := Nat.eq_of_beq_eq_true hb
      subst this
      cases e
      exact h.1
    · exact tlook_ok h.2 e
theorem ti_ok {P : Program} [Tys P] {t : Nat} {i : TI} (h : ti P t = some i) : TypeOk P t i := tlook_ok Tys.ok h
section
variable {P : Program} {t : Nat} {i : TI}
theorem TypeOk.under (h : TypeOk P t i) : ∃ d, P.underlying t = some d ∧ tk d = i.k := by
  have := h.k
  cases hd : P.underlying t with
  | none => rw [hd] at this; cases this
  | some d => rw [hd] at this; exact ⟨d, rfl, Option.some.inj this⟩
theorem TypeOk.bool (h : TypeOk P t i) (e : i.k = .bool) : P.underlying t = some .bool := by
  obtain ⟨d, hd, hk⟩ := h.under; rw [e] at hk; cases d <;> simp [tk] at hk; exact hd
theorem TypeOk.int (h : TypeOk P t i) {k : IntKind} (e : i.k = .int k) : P.underlying t = some (.int k) := by
  obtain ⟨d, hd, hk⟩ := h.under; rw [e] at hk; cases d <;> simp [tk] at hk; rw [hk] at hd; exact hd
theorem TypeOk.string (h : TypeOk P t i) (e : i.k = .string) : P.underlying t = some .string := by
  obtain ⟨d, hd, hk⟩ := h.under; rw [e] at hk; cases d <;> simp [tk] at hk; exact hd
theorem TypeOk.slice (h : TypeOk P t i) {el : Nat} (e : i.k = .slice el) : P.underlying t = some (.slice el) := by
  obtain ⟨d, hd, hk⟩ := h.under; rw [e] at hk; cases d <;> simp [tk] at hk; rw [hk] at hd; exact hd
theorem TypeOk.array (h : TypeOk P t i) {n el : Nat} (e : i.k = .array n el) : P.underlying t = some (.array n el) := by
  obtain ⟨d, hd, hk⟩ := h.under; rw [e] at hk; cases d <;> simp [tk] at hk; rw [hk.1, hk.2] at hd; exact hd
theorem TypeOk.pointer (h : TypeOk P t i) {el : Nat} (e : i.k = .pointer el) : P.underlying t = some (.pointer el) := by
  obtain ⟨d, hd, hk⟩ := h.under; rw [e] at hk; cases d <;> simp [tk] at hk; rw [hk] at hd; exact hd
theorem TypeOk.iface (h : TypeOk P t i) (e : i.k = .iface) : ∃ m, P.underlying t = some (.interface m) := by
  obtain ⟨d, hd, hk⟩ := h.under; rw [e] at hk; cases d <;> simp [tk] at hk; exact ⟨_, hd⟩
theorem TypeOk.struct (h : TypeOk P t i) {fs : List (Nat × Nat)} (e : i.k = .struct fs) : ∃ f : Array Field, P.underlying t = some (.struct f) ∧ f.toList.map (fun f => (f.type, f.offset)) = fs := by
  obtain ⟨d, hd, hk⟩ := h.under; rw [e] at hk; cases d <;> simp [tk] at hk; exact ⟨_, hd, hk⟩
theorem TypeOk.info (h : TypeOk P t i) : ∃ x z, P.info? t = some x ∧ x.size = i.size ∧ x.bytes = i.bytes ∧ x.zero = some z ∧ z.cells = i.zero.toArray := by
  obtain ⟨x, hx, he⟩ := Option.map_eq_some_iff.1 h.i
  simp only [Prod.mk.injEq] at he
  obtain ⟨h1, h2, h3⟩ := he
  obtain ⟨z, hz, hc⟩ := Option.map_eq_some_iff.1 h3
  exact ⟨x, z, hx, h1, h2, hz, by rw [← hc]⟩
def agg : TK → Bool
  | .struct _ => true
  | .array _ _ => true
  | _ => false
theorem TypeOk.run_isAgg (h : TypeOk P t i) (w : World) : (isAgg t).run P w = .ok (agg i.k) w := by
  obtain ⟨d, hd, hk⟩ := h.under
  simp only [isAgg, Sem.run_bind, run_underlying hd, Result.andThen]
  cases d <;> simp [tk] at hk <;> rw [← hk] <;> rfl
theorem TypeOk.run_sizeOf (h : TypeOk P t i) (w : World) : (sizeOf t).run P w = .ok i.size w := by
  obtain ⟨x, z, hx, h1, _⟩ := h.info
  simp [sizeOf, typeInfo, hx, h1]
end

/-! ### What asks nothing of memory -/
def band (k : IntKind) (a b : Int) : Int := k.wrap (BitVec.ofInt k.bits a &&& BitVec.ofInt k.bits b).toNat
def bor (k : IntKind) (a b : Int) : Int := k.wrap (BitVec.ofInt k.bits a ||| BitVec.ofInt k.bits b).toNat
def bxor (k : IntKind) (a b : Int) : Int := k.wrap (BitVec.ofInt k.bits a ^^^ BitVec.ofInt k.bits b).toNat
def bandnot (k : IntKind) (a b : Int) : Int := k.wrap (BitVec.ofInt k.bits a &&& ~~~ BitVec.ofInt k.bits b).toNat
def seq (x y : ByteArray) : Bool := x.toList == y.toList
def slt (x y : ByteArray) : Bool := Op.bytesLess x.toList y.toList
def isBool : TK → Bool | .bool => true | _ => false
def isStr : TK → Bool | .string => true | _ => false
def isSl : TK → Bool | .slice _ => true | _ => false
def pbin (P : Program) [Tys P] (t : Nat) (op : BinOp) : Value → Value → Option Value
  | .int k a, .int k' b => if k = k' then
      match op with
      | .add => some (.int k (k.wrap (a + b)))
      | .sub => some (.int k (k.wrap (a - b)))
      | .mul => some (.int k (k.wrap (a * b)))
      | .and => some (.int k (band k a b))
      | .or => some (.int k (bor k a b))
      | .xor => some (.int k (bxor k a b))
      | .andNot => some (.int k (bandnot k a b))
      | .eql => some (.bool (decide (a = b)))
      | .neq => some (.bool (!decide (a = b)))
      | .lss => some (.bool (decide (a < b)))
      | .leq => some (.bool (decide (a ≤ b)))
      | .gtr => some (.bool (decide (b < a)))
      | .geq => some (.bool (decide (b ≤ a)))
      | _ => none
    else none
  | .string a, .string b =>
    match op with
    | .eql => some (.bool (seq a b))
    | .neq => some (.bool (!seq a b))
    | .lss => some (.bool (slt a b))
    | .leq => some (.bool (slt a b || seq a b))
    | .gtr => some (.bool (!(slt a b || seq a b)))
    | .geq => some (.bool (!slt a b))
    | _ => none
  | .bool a, .bool b => match (ti P t).map (isBool ·.k) with
    | some true => (match op with | .eql => some (.bool (a == b)) | .neq => some (.bool (!(a == b))) | _ => none)
    | _ => none
  | _, _ => none
def vals (env : List (Nat × Value)) : List Operand → Option (List Value)
  | [] => some []
  | x :: r => match ev env x with
    | some v => (match vals env r with | some vs => some (v :: vs) | none => none)
    | none => none
def partOf (P : Program) [Tys P] (ft off : Nat) (cs : List Value) : Option Value :=
  match ti P ft with
  | some j => (match agg j.k with
    | true => some (.agg ((cs.drop off).take j.size).toArray)
    | false => cs[off]?)
  | none => none
def pv (P : Program) [Tys P] (env : List (Nat × Value)) : Op → Option Value
  | .move x => ev env x
  | .assign x => ev env x
  | .pick c a b => match ev env c with
    | some (.bool true) => ev env a
    | some (.bool false) => ev env b
    | _ => none
  | .binOp op t x y _ => match ev env x, ev env y with
    | some u, some v => pbin P t op u v
    | _, _ => none
  | .unOp op _ x => match op, ev env x with
    | .not, some (.bool b) => some (.bool (!b))
    | .neg, some (.int k a) => some (.int k (k.wrap (0 - a)))
    | _, _ => none
  | .nilCheck x => match ev env x with
    | some (.pointer (some a)) => some (.pointer (some a))
    | some (.func (.func f) fi c) => some (.func (.func f) fi c)
    | _ => none
  | .fieldAddr s x f => match ti P s, ev env x with
    | some i, some (.pointer (some a)) => (match i.k with
      | .struct fs => (match fs[f]? with
        | some (ft, off) => (match ti P ft with
          | some j => (match Nat.beq j.size 0 with | true => none | false => some (.pointer (some (a.add off))))
          | none => none)
        | none => none)
      | _ => none)
    | _, _ => none
  | .field s x f => match ti P s, ev env x with
    | some i, some (.agg cs) => (match i.k with
      | .struct fs => (match fs[f]? with
        | some (ft, off) => partOf P ft off cs.toList
        | none => none)
      | _ => none)
    | _, _ => none
  | .extract x i => match ev env x with
    | some (.tuple vs) => vs.toList[i]?
    | _ => none
  | .makeFunc fn first caps => match first.toList, vals env caps.toList with
    | [], some cs => some (.func fn #[] cs.toArray)
    | _, _ => none
  | .makeInterface t x => match ti P t, ev env x with
    | some i, some v => (match i.k with | .iface => none | .other => none | _ => some (.iface t v))
    | _, _ => none
  | .convert s d x => match ti P s, ti P d, ev env x with
    | some i, some j, some (.int _ n) => (match i.k, j.k with | .int _, .int k => some (.int k (k.wrap n)) | _, _ => none)
    | _, _, _ => none
  | .call c => match c.callee, c.args.toList, c.argTypes.toList with
    | .builtin .len, [x], [t] => (match ti P t, ev env x with
      | some i, some (.slice _ n _) => (match i.k with | .slice _ => some (.int .i64 n) | _ => none)
      | some i, some (.string s) => (match i.k with | .string => some (.int .i64 s.size) | _ => none)
      | some i, some _ => (match i.k with | .array n _ => some (.int .i64 n) | _ => none)
      | _, _ => none)
    | .builtin .min, [x, y], _ => (match ev env x, ev env y with
      | some (.int k a), some (.int _ b) => some (.int k (if b < a then b else a))
      | _, _ => none)
    | .builtin .max, [x, y], _ => (match ev env x, ev env y with
      | some (.int k a), some (.int _ b) => some (.int k (if a < b then b else a))
      | _, _ => none)
    | _, _, _ => none
  | _ => none

section
variable {P : Program} [Tys P] {w : World} {n : Nat} {ds : List Deferred} {env : List (Nat × Value)} {a : Act}
theorem run_part {ft off : Nat} {cs : List Value} {v : Value} (h : partOf P ft off cs = some v) : (part ft cs.toArray off).run P w = .ok v w := by
  unfold partOf at h
  cases hj : ti P ft with
  | none => rw [hj] at h; cases h
  | some j =>
    rw [hj] at h
    have ok := ti_ok hj
    simp only [part, Sem.run_bind, ok.run_isAgg, Result.andThen]
    cases hg : agg j.k with
    | true =>
      simp only [hg] at h
      cases h
      simp only [if_true, Sem.run_bind, ok.run_sizeOf, Result.andThen, Sem.run_pure]
      congr 2
      apply Array.ext'
      simp [Array.toList_extract, List.extract_eq_take_drop]
    | false =>
      simp only [hg] at h
      simp only [Bool.false_eq_true, if_false, List.getElem?_toArray, h, Sem.run_pure]
theorem vals_ok (he : Env n ds env a) : ∀ {l : List Operand} {vs : List Value}, vals env l = some vs → l.map a.eval = vs
  | [], vs, h => by cases h; rfl
  | x :: r, vs, h => by
    unfold vals at h
    cases hx : ev env x with
    | none => simp only [hx] at h; cases h
    | some v =>
      simp only [hx] at h
      cases hr : vals env r with
      | none => simp only [hr] at h; cases h
      | some us => simp only [hr] at h; cases h; simp [he.ev hx, vals_ok he hr]
theorem int_beq (a b : Int) : (a == b) = decide (a = b) := by rw [Bool.eq_iff_iff]; simp
theorem run_eqIn_bool (d : Nat) {t : Nat} (h : P.underlying t = some .bool) (p q : Bool) : (Op.equalIn (d + 1) t (.bool p) (.bool q)).run P w = .ok (p == q) w := by
  simp [Op.equalIn, run_underlying h]
theorem run_eq_bool {t : Nat} (h : P.underlying t = some .bool) (p q : Bool) : (Op.equal t (.bool p) (.bool q)).run P w = .ok (p == q) w := run_eqIn_bool 9999 h p q
theorem pbin_ok {t : Nat} {op : BinOp} {u v r : Value} {x y : Operand} (h : pbin P t op u v = some r) :
    (do eqGuard op t x y u v; binOp op t u v : Sem Value).run P w = .ok r w := by
  unfold pbin at h
  split at h
  · rename_i k a k' b
    split at h
    · rename_i hk
      subst hk
      cases op <;> simp at h <;> subst h <;>
        simp [eqGuard, binOp, Op.intArith, Op.intBits, Op.intCmp, band, bor, bxor, bandnot, bne, int_beq]
    · cases h
  · cases op <;> simp at h <;> subst h <;> simp [eqGuard, binOp, Op.stringOp, seq, slt]
  · rename_i p q
    cases hi : ti P t with
    | none => simp [hi] at h
    | some i =>
      cases hk : i.k <;> simp [hi, hk, isBool] at h
      have hu := (ti_ok hi).bool hk
      cases op <;> simp at h <;> subst h <;> simp [eqGuard, binOp, run_eq_bool hu]
  · cases h
theorem pv_ok {o : Oper} {v : Value} (he : Env n ds env a) (h : pv P env o.op = some v) : (execOp a.eval o).run P w = .ok (.value v) w := by
  obtain ⟨dst, op, ty, pos, after, guard⟩ := o
  cases op <;> simp only [pv] at h <;> try (cases h; done)
  case move x => simp [execOp, he.ev h]
  case assign x => simp [execOp, he.ev h]
  case pick c x y =>
    split at h
    · rename_i hc; simp [execOp, he.ev hc, he.ev h, asBool]
    · rename_i hc; simp [execOp, he.ev hc, he.ev h, asBool]
    · cases h
  case binOp op t x y yt =>
    split at h
    · rename_i u q hu hq
      have := pbin_ok (w := w) (x := x) (y := y) h
      simp only [execOp, he.ev hu, he.ev hq, Sem.run_bind] at this ⊢
      simp [this]
    · cases h
  case unOp op t x =>
    split at h
    · rename_i b hb; cases h; simp [execOp, he.ev hb, Op.unary]
    · rename_i k b hb; cases h; simp [execOp, he.ev hb, Op.unary, Op.intArith]
    · cases h
  case nilCheck x =>
    split at h
    · rename_i b hb; cases h; simp [execOp, he.ev hb]
    · rename_i f fi c hb; cases h; simp [execOp, he.ev hb]
    · cases h
  case fieldAddr s x f =>
    split at h
    · rename_i i b hi hb
      split at h
      · rename_i fs hk
        split at h
        · rename_i ft off hf
          split at h
          · rename_i j hj
            split at h
            · cases h
            · rename_i hz
              cases h
              obtain ⟨flds, hu, hm⟩ := (ti_ok hi).struct hk
              have hfl : ∃ fl : Field, flds[f]? = some fl ∧ fl.type = ft ∧ fl.offset = off := by
                rw [← hm] at hf
                rw [List.getElem?_map] at hf
                obtain ⟨fl, h1, h2⟩ := Option.map_eq_some_iff.1 hf
                simp only [Prod.mk.injEq] at h2
                exact ⟨fl, by simpa using h1, h2.1, h2.2⟩
              obtain ⟨fl, h1, h2, h3⟩ := hfl
              have hz' : ¬ j.size = 0 := by
                intro e
                rw [e] at hz
                simp at hz
              simp only [execOp, he.ev hb, Instr.fieldAt, Sem.run_bind, run_underlying hu, Result.andThen, h1, Instr.sureAddr, Sem.run_pure, fieldPlace, h2, (ti_ok hj).run_sizeOf, Sem.run_ite, h3, if_neg hz']
          · cases h
        · cases h
      · cases h
    · cases h
  case field s x f =>
    split at h
    · rename_i i cs hi hb
      split at h
      · rename_i fs hk
        split at h
        · rename_i ft off hf
          obtain ⟨flds, hu, hm⟩ := (ti_ok hi).struct hk
          have hfl : ∃ fl : Field, flds[f]? = some fl ∧ fl.type = ft ∧ fl.offset = off := by
            rw [← hm] at hf
            rw [List.getElem?_map] at hf
            obtain ⟨fl, h1, h2⟩ := Option.map_eq_some_iff.1 hf
            simp only [Prod.mk.injEq] at h2
            exact ⟨fl, by simpa using h1, h2.1, h2.2⟩
          obtain ⟨fl, h1, h2, h3⟩ := hfl
          have hp := run_part (w := w) h
          simp only [execOp, he.ev hb, Instr.field, Sem.run_bind, run_underlying hu, Result.andThen, h1, asAgg, Sem.run_pure, h2, h3]
          rw [show cs = cs.toList.toArray from by simp]
          rw [hp]
        · cases h
      · cases h
    · cases h
  case extract x i =>
    split at h
    · rename_i vs hb
      have h' : vs[i]? = some v := by simpa using h
      simp [execOp, he.ev hb, Instr.extract, h']
    · cases h
  case makeFunc fn first caps =>
    split at h
    · rename_i cs h1 h2
      cases h
      have e1 : first = #[] := by simpa using h1
      have e2 := vals_ok he h2
      have e3 : caps.map a.eval = cs.toArray := by apply Array.ext'; rw [← e2, Array.toList_map]
      simp [execOp, e1, Instr.makeFunc, e3]
    · cases h
  case makeInterface t x =>
    split at h
    · rename_i i u hi hb
      obtain ⟨d, hd, hk⟩ := (ti_ok hi).under
      split at h
      · cases h
      · cases h
      · rename_i hn1 hn2
        cases h
        simp only [execOp, he.ev hb, Instr.makeInterface, Sem.run_bind, run_underlying hd, Result.andThen]
        cases d <;> first | rfl | exact (hn1 hk.symm).elim
    · cases h
  case convert s d x =>
    split at h
    · rename_i i j k m hi hj hb
      split at h
      · rename_i k1 k2 hk1 hk2
        cases h
        simp [execOp, he.ev hb, convert, run_underlying ((ti_ok hi).int hk1), run_underlying ((ti_ok hj).int hk2), Conv.intToInt]
      · cases h
    · cases h
  case call c =>
    obtain ⟨callee, args, ats⟩ := c
    split at h
    · rename_i x t hc ha hat
      have hc' : callee = .builtin .len := hc
      have ha' : args = #[x] := by simpa using congrArg List.toArray ha
      have hat' : ats = #[t] := by simpa using congrArg List.toArray hat
      subst hc' ha' hat'
      split at h
      · rename_i i A m c2 hi hx
        split at h
        · rename_i el hk
          cases h
          simp [execOp, resolve, invoke, builtin, Builtin.len_, he.ev hx, run_underlying ((ti_ok hi).slice hk), goInt]
        · cases h
      · rename_i i s hi hx
        split at h
        · rename_i hk
          cases h
          simp [execOp, resolve, invoke, builtin, Builtin.len_, he.ev hx, run_underlying ((ti_ok hi).string hk), goInt]
        · cases h
      · rename_i i u _ _ hi hx
        split at h
        · rename_i m el hk
          cases h
          simp [execOp, resolve, invoke, builtin, Builtin.len_, he.ev hx, run_underlying ((ti_ok hi).array hk), goInt]
        · cases h
      · cases h
    · rename_i _ x y hc ha
      have hc' : callee = .builtin .min := hc
      have ha' : args = #[x, y] := by simpa using congrArg List.toArray ha
      subst hc' ha'
      split at h
      · rename_i k p k' q hx hy
        cases h
        simp [execOp, resolve, invoke, builtin, Builtin.min_, Builtin.min2, he.ev hx, he.ev hy]
      · cases h
    · rename_i _ x y hc ha
      have hc' : callee = .builtin .max := hc
      have ha' : args = #[x, y] := by simpa using congrArg List.toArray ha
      subst hc' ha'
      split at h
      · rename_i k p k' q hx hy
        cases h
        simp [execOp, resolve, invoke, builtin, Builtin.max_, Builtin.max2, he.ev hx, he.ev hy]
      · cases h
    · cases h

/-! ### Many at once -/
def grd (os : List Oper) (env : List (Nat × Value)) (g : Option (Nat × Bool)) : Option Bool :=
  match g with
  | none => some true
  | some (j, want) => match os[j]? with
    | some q => (match q.dst with
      | some d => (match look env d with
        | some (.bool true) => some want
        | some (.bool false) => some (!want)
        | some (.tuple _) => some false
        | _ => none)
      | none => none)
    | none => none
def runP (P : Program) [Tys P] (n : Nat) (os : List Oper) : Nat → List Oper → List (Nat × Value) → Option (List Oper × List (Nat × Value))
  | 0, rest, env => some (rest, env)
  | k + 1, o :: rest, env => match grd os env o.guard, o.dst with
    | some true, some d => (match pv P env o.op, Nat.blt d n with
      | some v, true => runP P n os k rest ((d, v) :: env)
      | _, _ => none)
    | some false, some d => (match Nat.blt d n with
      | true => runP P n os k rest ((d, undef) :: env)
      | false => none)
    | some false, none => runP P n os k rest env
    | _, _ => none
  | _ + 1, [], _ => none
theorem grd_ok {os : List Oper} {o : Oper} {b : Bool} (he : Env n ds env a) (h : grd os env o.guard = some b) : Region.wanted o (yielded os.toArray a.tmps) = b := by
  unfold grd at h
  unfold Region.wanted
  split at h
  · rename_i hg; rw [hg]; simpa using h
  · rename_i j want hg
    rw [hg]
    split at h
    · rename_i q hq
      split at h
      · rename_i d hd
        have key : ∀ t, look env d = some (.bool t) → yielded os.toArray a.tmps j = some t := fun t ht => by
          have := he.get d _ ht
          have hv : a.tmps[d]? = some (.bool t) := by
            have h2 : a.tmps.getD d undef = .bool t := this
            rw [Array.getD_eq_getD_getElem?] at h2
            cases hx : a.tmps[d]? with
            | none => rw [hx] at h2; simp [undef] at h2
            | some y => rw [hx] at h2; simp at h2; rw [h2]
          simp [yielded, hq, hd, hv]
        split at h
        · rename_i ht; show (yielded os.toArray a.tmps j == some want) = b; rw [key _ ht]; have h2 := Option.some.inj h; rw [← h2]; cases want <;> rfl
        · rename_i ht; show (yielded os.toArray a.tmps j == some want) = b; rw [key _ ht]; have h2 := Option.some.inj h; rw [← h2]; cases want <;> rfl
        · rename_i vs ht
          have := he.get d _ ht
          have hy : yielded os.toArray a.tmps j = none := by
            have h2 : a.tmps.getD d undef = .tuple vs := this
            rw [Array.getD_eq_getD_getElem?] at h2
            cases hx : a.tmps[d]? with
            | none => simp [yielded, hq, hd, hx]
            | some y => rw [hx] at h2; simp at h2; subst h2; simp [yielded, hq, hd, hx]
          show (yielded os.toArray a.tmps j == some want) = b
          rw [hy]
          have h2 := Option.some.inj h
          rw [← h2]
          cases want <;> rfl
        · cases h
      · cases h
    · cases h
theorem At.run {R : Res} {l : List HProp} {Q : Exit → Act → World → Prop} {os : List Oper} : ∀ (k : Nat) {rest rest' : List Oper} {env env' : List (Nat × Value)},
    runP P n os k rest env = some (rest', env') → At n ds R env' l (wpList P os.toArray Q rest') → At n ds R env l (wpList P os.toArray Q rest)
  | 0, rest, rest', env, env', h, hh => by
    simp only [runP, Option.some.injEq, Prod.mk.injEq] at h
    obtain ⟨rfl, rfl⟩ := h
    exact hh
  | k + 1, [], _, _, _, h, _ => by simp [runP] at h
  | k + 1, o :: rest, rest', env, env', h, hh => by
    simp only [runP] at h
    intro a w he hs
    split at h
    · rename_i d hg hd
      split at h
      · rename_i v hv hb
        have ih := At.run k h hh _ _ (he.put hb v) hs
        refine wpList_step fun K hK => ?_
        rw [if_pos (grd_ok he hg)]
        unfold Oper.wp
        rw [pv_ok he hv]
        show K (a.put o.dst v) w
        rw [hd]
        exact hK _ _ ih
      · cases h
    · rename_i d hg hd
      split at h
      · rename_i hb
        have ih := At.run k h hh _ _ (he.put hb undef) hs
        refine wpList_step fun K hK => ?_
        rw [if_neg (by rw [grd_ok he hg]; simp), hd]
        exact hK _ _ ih
      · cases h
    · rename_i hg hd
      have ih := At.run k h hh _ _ he hs
      refine wpList_step fun K hK => ?_
      rw [if_neg (by rw [grd_ok he hg]; simp), hd]
      exact hK _ _ ih
    · cases h
/-! ### One operation that yields a value and leaves the world: in a list, in a still one, in a quiet one -/
def Y (P : Program) (n : Nat) (ds : List Deferred) (R : Res) (env : List (Nat × Value)) (l : List HProp) (o : Oper) (v : Value) : Prop :=
  ∀ a w, Env n ds env a → sat R l w → (execOp a.eval o).run P w = .ok (.value v) w
/-- A region that draws its order, whose first operations only read. -/
def At.Still (P : Program) (n : Nat) (ds : List Deferred) (R : Res) (env : List (Nat × Value)) (l : List HProp) (os rest : List Oper) (K : Act → World → Prop) : Prop :=
  At n ds R env l (fun a w => wpStill P os.toArray w (fun a' => K a' w) rest a)
/-- A region that draws its order, whose operations only read, or call what only reads. -/
def At.Quiet (P : Program) (n : Nat) (ds : List Deferred) (R : Res) (env : List (Nat × Value)) (l : List HProp) (os rest : List Oper) (K : Act → World → Prop) : Prop :=
  ∀ a, Env n ds env a → wpQuiet P os.toArray (sat R l) (fun a' => ∀ w', sat R l w' → K a' w') rest a
section
variable {R : Res} {l : List HProp} {Q : Exit → Act → World → Prop} {K : Act → World → Prop} {os rest : List Oper} {o : Oper} {d : Nat} {v : Value}
theorem At.y (h : Y P n ds R env l o v) (hg : grd os env o.guard = some true) (hdst : o.dst = some d) (hd : Nat.blt d n = true) (k : At n ds R ((d, v) :: env) l (wpList P os.toArray Q rest)) :
    At n ds R env l (wpList P os.toArray Q (o :: rest)) := fun a w e hs => by
  refine wpList_step fun K hK => ?_
  rw [if_pos (grd_ok e hg)]
  unfold Oper.wp
  rw [h a w e hs]
  show K (a.put o.dst v) w
  rw [hdst]
  exact hK _ _ (k _ _ (e.put hd v) hs)
theorem At.Still.y (h : Y P n ds R env l o v) (hg : grd os env o.guard = some true) (hdst : o.dst = some d) (hd : Nat.blt d n = true) (k : At.Still P n ds R ((d, v) :: env) l os rest K) :
    At.Still P n ds R env l os (o :: rest) K := fun a w e hs => by
  refine wpStill_step fun K' hK => ?_
  rw [if_pos (grd_ok e hg)]
  unfold Oper.still
  rw [h a w e hs, Oper.stillUpon_value, hdst]
  exact hK _ (k _ _ (e.put hd v) hs)
theorem At.Quiet.y (h : Y P n ds R env l o v) (hg : grd os env o.guard = some true) (hdst : o.dst = some d) (hd : Nat.blt d n = true) (k : At.Quiet P n ds R ((d, v) :: env) l os rest K) :
    At.Quiet P n ds R env l os (o :: rest) K := fun a e => by
  refine wpQuiet_step fun K' hK => ?_
  rw [if_pos (grd_ok e hg)]
  refine ⟨v, fun w hs => ?_, by rw [hdst]; exact hK _ (k _ (e.put hd v))⟩
  unfold Oper.quietAt
  rw [h a w e hs]
  exact ⟨rfl, rfl⟩
theorem At.Still.nil (k : At n ds R env l K) : At.Still P n ds R env l os [] K := fun a w e hs => wpStill_nil (k a w e hs)
theorem At.Quiet.nil (k : At n ds R env l K) : At.Quiet P n ds R env l os [] K := fun a e => wpQuiet_nil fun w hs => k a w e hs
theorem At.Still.run : ∀ (k : Nat) {rest rest' : List Oper} {env env' : List (Nat × Value)},
    runP P n os k rest env = some (rest', env') → At.Still P n ds R env' l os rest' K → At.Still P n ds R env l os rest K
  | 0, rest, rest', env, env', h, hh => by
    simp only [runP, Option.some.injEq, Prod.mk.injEq] at h
    obtain ⟨rfl, rfl⟩ := h
    exact hh
  | k + 1, [], _, _, _, h, _ => by simp [runP] at h
  | k + 1, o :: rest, rest', env, env', h, hh => by
    simp only [runP] at h
    split at h
    · rename_i d hg hd
      split at h
      · rename_i v hv hb
        exact At.Still.y (fun a w e _ => pv_ok e hv) hg hd hb (At.Still.run k h hh)
      · cases h
    · rename_i d hg hd
      split at h
      · rename_i hb
        intro a w he hs
        refine wpStill_step fun K' hK => ?_
        rw [if_neg (by rw [grd_ok he hg]; simp), hd]
        exact hK _ (At.Still.run k h hh _ _ (he.put hb undef) hs)
      · cases h
    · rename_i hg hd
      intro a w he hs
      refine wpStill_step fun K' hK => ?_
      rw [if_neg (by rw [grd_ok he hg]; simp), hd]
      exact hK _ (At.Still.run k h hh _ _ he hs)
    · cases h
theorem At.Quiet.run : ∀ (k : Nat) {rest rest' : List Oper} {env env' : List (Nat × Value)},
    runP P n os k rest env = some (rest', env') → At.Quiet P n ds R env' l os rest' K → At.Quiet P n ds R env l os rest K
  | 0, rest, rest', env, env', h, hh => by
    simp only [runP, Option.some.injEq, Prod.mk.injEq] at h
    obtain ⟨rfl, rfl⟩ := h
    exact hh
  | k + 1, [], _, _, _, h, _ => by simp [runP] at h
  | k + 1, o :: rest, rest', env, env', h, hh => by
    simp only [runP] at h
    split at h
    · rename_i d hg hd
      split at h
      · rename_i v hv hb
        exact At.Quiet.y (fun a w e _ => pv_ok e hv) hg hd hb (At.Quiet.run k h hh)
      · cases h
    · rename_i d hg hd
      split at h
      · rename_i hb
        intro a he
        refine wpQuiet_step fun K' hK => ?_
        rw [if_neg (by rw [grd_ok he hg]; simp), hd]
        exact hK _ (At.Quiet.run k h hh _ (he.put hb undef))
      · cases h
    · rename_i hg hd
      intro a he
      refine wpQuiet_step fun K' hK => ?_
      rw [if_neg (by rw [grd_ok he hg]; simp), hd]
      exact hK _ (At.Quiet.run k h hh _ he)
    · cases h
/-- A slot whose truth has been decided. -/
theorem At.know {t : Nat} {b c : Bool} (hx : look env t = some (.bool b)) (hb : b = c) (k : At n ds R ((t, .bool c) :: env) l K) : At n ds R env l K := fun a w e hs =>
  k a w ⟨e.size, e.defs, fun t' v' hv => by
    unfold look at hv
    split at hv
    · rename_i hbq
      have : t = t' := Nat.eq_of_beq_eq_true hbq
      subst this
      cases hv
      rw [← hb]; exact e.get _ _ hx
    · exact e.get _ _ hv⟩ hs
theorem At.Still.know {t : Nat} {b c : Bool} (hx : look env t = some (.bool b)) (hb : b = c) (k : At.Still P n ds R ((t, .bool c) :: env) l os rest K) : At.Still P n ds R env l os rest K := At.know hx hb k
theorem At.Quiet.know {t : Nat} {b c : Bool} (hx : look env t = some (.bool b)) (hb : b = c) (k : At.Quiet P n ds R ((t, .bool c) :: env) l os rest K) : At.Quiet P n ds R env l os rest K := fun a e =>
  k a ⟨e.size, e.defs, fun t' v' hv => by
    unfold look at hv
    split at hv
    · rename_i hbq
      have : t = t' := Nat.eq_of_beq_eq_true hbq
      subst this
      cases hv
      rw [← hb]; exact e.get _ _ hx
    · exact e.get _ _ hv⟩
class Mixed (P : Program) : Prop where
  mixed : P.follows .mixedOrders = true
theorem At.quiet [Mixed P] {id : Nat} {os : List Oper} (hB : Region.lexB .any os.toArray = true) (k : At.Quiet P n ds R env l os os (Q .normal)) : At n ds R env l ((Code.region id os.toArray true).wp P Q) := fun a w e hs =>
  wp_region_quiet (C := sat R l) Mixed.mixed hB hs.drew (by simpa using k a e)
theorem At.still [Mixed P] {id : Nat} {os : List Oper} (m : Nat) (hB : Region.lexTailB .any os.toArray m = true) (k : At.Still P n ds R env l os (os.take m) (wpList P os.toArray Q (os.drop m))) :
    At n ds R env l ((Code.region id os.toArray true).wp P Q) := fun a w e hs =>
  wp_region_still_tail m Mixed.mixed hB (k a _ e hs.drew)
end
end
end Go.Bw
