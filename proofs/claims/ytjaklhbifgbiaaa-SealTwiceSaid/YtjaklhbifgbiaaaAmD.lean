/- Proved here: a part of an abstract machine for the walks of this program, and that it tells the truth about the model. No condition. -/
import Derived.Test.YtjaklhbifgbiaaaAmC
set_option linter.unusedSimpArgs false
set_option linter.unusedVariables false
namespace Go.AM
open Go

/-- what an operation does: a side condition, its value, rows that turn, how many ids are new -/
structure Eff where
  ok : Prop
  val : PV
  upds : List (Nat × Row)
  nn : Nat

def Eff.pure (p : PV) : Eff := { ok := True, val := p, upds := [], nn := 0 }
def Eff.pureIf (c : Prop) (p : PV) : Eff := { ok := c, val := p, upds := [], nn := 0 }

def updRows (rows : Rows) : List (Nat × Row) → Rows
  | [] => rows
  | (i, r) :: l => updRows (upd rows i r) l

def St.after (s : St) (e : Eff) : St := { s with rows := updRows s.rows e.upds, nx := s.nx + e.nn }
def St.put (s : St) (d : Option Nat) (p : PV) : St := match d with | some d => { s with regs := upd s.regs d p } | none => s

def OpSound (P : Program) (o : Oper) (s : St) (e : Eff) : Prop :=
  ∀ B β X w a, SRel B β X w a s → e.ok → ∃ v w' β' X', ((execOp a.eval o).run P w = .ok (.value v) w' ∨ ((execOp a.eval o).run P w = .ok .skip w' ∧ v = undef)) ∧
    SRel B β' X' w' a (s.after e) ∧ repP (s.after e).rows β' w' X' e.val v ∧ Sc (· < s.nx + e.nn) e.val

theorem St.after_pure (s : St) (c : Prop) (p : PV) : s.after (Eff.pureIf c p) = s := rfl

theorem sound_pure {P : Program} {o : Oper} {s : St} {c : Prop} {p : PV}
    (h : ∀ B β X w a, SRel B β X w a s → c → ∃ v, (execOp a.eval o).run P w = .ok (.value v) w ∧ repP s.rows β w X p v ∧ Sc (· < s.nx) p) : OpSound P o s (Eff.pureIf c p) := by
  intro B β X w a hr hc
  obtain ⟨v, h1, h2, h3⟩ := h B β X w a hr hc
  exact ⟨v, w, β, X, .inl h1, hr, h2, h3⟩

def ofVal : Value → PV
  | .agg cs => if cs.toList.all oc then .d (.agg (cs.toList.map .lit)) else .any
  | v => .d (.lit v)

def ev (regs : Nat → PV) : Operand → PV
  | .tmp t => regs t
  | .const v => ofVal v
  | .global _ => .any
  | .func f => .clo (.func f) [] []

theorem reps_lits (w : World) (X : Nat → Prop) : ∀ (vs : List Value), vs.all oc = true → reps w X (vs.map .lit) vs
  | [], _ => by simp [reps]
  | v :: vs, h => by
    simp only [List.all_cons, Bool.and_eq_true] at h
    simp only [List.map_cons]
    unfold reps
    exact ⟨v, vs, rfl, h.1, by simp [rep], reps_lits w X vs h.2⟩

theorem ofVal_ok (rows : Rows) (β : Nat → Loc) (w : World) (X : Nat → Prop) (v : Value) : repP rows β w X (ofVal v) v := by
  cases v with
  | agg cs =>
    simp only [ofVal]
    split
    · rename_i h
      unfold repP rep
      exact ⟨cs.toList, by simp, reps_lits w X _ h⟩
    · unfold repP; trivial
  | _ => simp [ofVal, repP, rep]

theorem Sc_ofVal (S : Nat → Prop) (v : Value) : Sc S (ofVal v) := by
  cases v <;> simp only [ofVal] <;> (try split) <;> trivial

theorem SRel.ev {B : Base} {β : Nat → Loc} {X : Nat → Prop} {w : World} {a : Act} {s : St} (h : SRel B β X w a s) (x : Operand) :
    repP s.rows β w X (ev s.regs x) (a.eval x) ∧ Sc (· < s.nx) (AM.ev s.regs x) := by
  cases x with
  | tmp t => exact ⟨h.rg t, h.sc t⟩
  | const v => exact ⟨ofVal_ok _ _ _ _ _, Sc_ofVal _ _⟩
  | global g => exact ⟨by simp [AM.ev, repP], trivial⟩
  | func f => exact ⟨by simp only [AM.ev, repP, Act.eval]; exact ⟨[], [], rfl, by simp [repPs], by simp [repPs]⟩, ⟨trivial, trivial⟩⟩

theorem SRel.lit {B : Base} {β : Nat → Loc} {X : Nat → Prop} {w : World} {a : Act} {s : St} (h : SRel B β X w a s) {x : Operand} {v : Value} (e : AM.ev s.regs x = .d (.lit v)) :
    a.eval x = v := by
  have := (h.ev x).1
  rw [e] at this
  simpa [repP, rep] using this

/-! ## values -/

def evBits (op : BinOp) (k : IntKind) (a b : Int) : Int :=
  k.wrap (match op with
    | .and => (BitVec.ofInt k.bits a &&& BitVec.ofInt k.bits b).toNat
    | .or => (BitVec.ofInt k.bits a ||| BitVec.ofInt k.bits b).toNat
    | .xor => (BitVec.ofInt k.bits a ^^^ BitVec.ofInt k.bits b).toNat
    | _ => (BitVec.ofInt k.bits a &&& ~~~ BitVec.ofInt k.bits b).toNat)

/-- numbers of one kind -/
def evInt (op : BinOp) (k : IntKind) (a b : Int) : Option (Prop × Value) :=
  match op with
  | .add => some (True, .int k (k.wrap (a + b)))
  | .sub => some (True, .int k (k.wrap (a - b)))
  | .mul => some (True, .int k (k.wrap (a * b)))
  | .quo => some (b ≠ 0, .int k (k.wrap (a.tdiv b)))
  | .rem => some (b ≠ 0, .int k (a.tmod b))
  | .and => some (True, .int k (evBits .and k a b))
  | .or => some (True, .int k (evBits .or k a b))
  | .xor => some (True, .int k (evBits .xor k a b))
  | .andNot => some (True, .int k (evBits .andNot k a b))
  | .eql => some (True, .bool (a == b))
  | .neq => some (True, .bool (a != b))
  | .lss => some (True, .bool (a < b))
  | .leq => some (True, .bool (a ≤ b))
  | .gtr => some (True, .bool (b < a))
  | .geq => some (True, .bool (b ≤ a))
  | _ => none

def evStr (op : BinOp) (x y : ByteArray) : Option (Prop × Value) :=
  match op with
  | .add => some (x.size + y.size ≤ 9223372036854775807, .string (x ++ y))
  | .eql => some (True, .bool (x.toList == y.toList))
  | .neq => some (True, .bool (!(x.toList == y.toList)))
  | .lss => some (True, .bool (Op.bytesLess x.toList y.toList))
  | .leq => some (True, .bool (Op.bytesLess x.toList y.toList || x.toList == y.toList))
  | .gtr => some (True, .bool (!(Op.bytesLess x.toList y.toList || x.toList == y.toList)))
  | .geq => some (True, .bool (!(Op.bytesLess x.toList y.toList)))
  | _ => none

def evBin (op : BinOp) (x y : Value) : Option (Prop × Value) :=
  match x, y with
  | .int k a, .int k' b =>
    match op with
    | .shl => some (0 ≤ b, .int k (k.wrap (a * 2 ^ (min b.toNat k.bits))))
    | .shr => some (0 ≤ b, .int k (a.fdiv (2 ^ (min b.toNat k.bits))))
    | op => if k = k' then evInt op k a b else none
  | .string a, .string b => evStr op a b
  | _, _ => none

theorem evBin_ok {P : Program} {op : BinOp} {t : TypeId} {x y : Value} {c : Prop} {v : Value} (h : evBin op x y = some (c, v)) (hc : c) (w : World) :
    (binOp op t x y).run P w = .ok v w := by
  unfold evBin at h
  split at h
  · rename_i k a k' b
    split at h
    · simp only [Option.some.injEq, Prod.mk.injEq] at h
      obtain ⟨rfl, rfl⟩ := h
      simp [binOp, Op.shift, Int.not_lt.2 hc]
    · simp only [Option.some.injEq, Prod.mk.injEq] at h
      obtain ⟨rfl, rfl⟩ := h
      simp [binOp, Op.shift, Int.not_lt.2 hc]
    · rename_i n1 n2
      split at h
      · rename_i hk
        subst hk
        cases op <;> simp only [evInt, Option.some.injEq, Prod.mk.injEq, reduceCtorEq] at h <;> (try obtain ⟨rfl, rfl⟩ := h) <;>
          first
            | (exact absurd rfl n1)
            | (exact absurd rfl n2)
            | (simp [binOp, Op.intArith, Op.intBits, Op.intCmp, evBits]; done)
            | (have hc' : ¬ b = 0 := hc; simp [binOp, Op.intDiv, hc']; done)
            | (simp [binOp, Op.intArith, Op.intBits, Op.intCmp, evBits, GT.gt, GE.ge]; done)
      · cases h
  · rename_i a b
    cases op <;> simp only [evStr, Option.some.injEq, Prod.mk.injEq, reduceCtorEq] at h <;> (try obtain ⟨rfl, rfl⟩ := h) <;>
      first
        | (simp [binOp, Op.stringOp]; done)
        | (have hc' : ¬ (IntKind.i64.max < ((a.size + b.size : Nat) : Int)) := by
            simp only [IntKind.max, IntKind.signed, IntKind.bits]; simp; omega
           simp only [binOp, Op.stringOp, gt_iff_lt, if_neg hc']; rfl)
  · cases h
end Go.AM
