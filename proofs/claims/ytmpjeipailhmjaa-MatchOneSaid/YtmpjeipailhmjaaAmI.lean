/- Proved here: a part of an abstract machine for the walks of this program, and that it tells the truth about the model. No condition. -/
import Derived.Test.YtmpjeipailhmjaaAmH
set_option linter.unusedSimpArgs false
set_option linter.unusedVariables false
namespace Go.AM
open Go

/-! ## pure operations -/
theorem op_move {P : Program} {o : Oper} {s : St} {x : Operand} (ho : o.op = .move x ∨ o.op = .assign x) : OpSound P o s (Eff.pureIf True (ev s.regs x)) :=
  sound_pure fun B β X w a hr _ => ⟨a.eval x, by rcases ho with ho | ho <;> simp [execOp, ho], (hr.ev x).1, (hr.ev x).2⟩

theorem op_pick {P : Program} {o : Oper} {s : St} {c x y : Operand} {t : Bool} (ho : o.op = .pick c x y) (hc : ev s.regs c = .d (.lit (.bool t))) :
    OpSound P o s (Eff.pureIf True (if t then ev s.regs x else ev s.regs y)) :=
  sound_pure fun B β X w a hr _ => by
    have h1 := hr.lit hc
    refine ⟨if t then a.eval x else a.eval y, by simp [execOp, ho, h1, asBool], ?_⟩
    cases t
    · exact ⟨(hr.ev y).1, (hr.ev y).2⟩
    · exact ⟨(hr.ev x).1, (hr.ev x).2⟩

/-- a value of its own -/
theorem sound_lit {P : Program} {o : Oper} {s : St} {c : Prop} {v : Value} (h : ∀ B β X w a, SRel B β X w a s → c → (execOp a.eval o).run P w = .ok (.value v) w) :
    OpSound P o s (Eff.pureIf c (.d (.lit v))) :=
  sound_pure fun B β X w a hr hc => ⟨v, h B β X w a hr hc, by simp [repP, rep], trivial⟩

theorem eqGuard_lit {P : Program} {op : BinOp} {t : TypeId} {x y : Operand} {u v : Value} (w : World) (h : oc u = true) (hn : u ≠ .nilIface) : (eqGuard op t x y u v).run P w = .ok () w := by
  unfold eqGuard
  cases u <;> simp [oc] at h hn <;> (simp only []; split <;> simp)

theorem evBin_oc {op : BinOp} {x y : Value} {r : Prop × Value} (h : evBin op x y = some r) : oc x = true ∧ x ≠ .nilIface := by
  unfold evBin at h
  split at h <;> first | exact ⟨rfl, by simp⟩ | cases h

/-- equality of structs of one-cell fields -/
def eqLit : Value → Value → Option Bool
  | .int k a, .int k' b => if k = k' then some (a == b) else none
  | .string a, .string b => some (a.toList == b.toList)
  | .bool a, .bool b => some (a == b)
  | _, _ => none

def TK.isBool : TK → Bool | .bool => true | _ => false
def TK.isPtr : TK → Bool | .pointer _ => true | _ => false
def tyIs (P : Program) (t : TypeId) (f : TK → Bool) : Bool := match tyOf P t with | some ty => f ty.k | none => false

theorem tyIs_bool {P : Program} {t : TypeId} (h : tyIs P t TK.isBool = true) : P.underlying t = some .bool := by
  unfold tyIs at h
  split at h
  · rename_i ty ht
    refine tyOf_bool ht ?_
    cases hk : ty.k <;> rw [hk] at h <;> simp [TK.isBool] at h
  · cases h

theorem tyIs_ptr {P : Program} {t : TypeId} (h : tyIs P t TK.isPtr = true) : ∃ e, P.underlying t = some (.pointer e) := by
  unfold tyIs at h
  split at h
  · rename_i ty ht
    cases hk : ty.k <;> rw [hk] at h <;> simp [TK.isPtr] at h
    exact ⟨_, tyOf_pointer ht hk⟩
  · cases h

theorem equal_bool {P : Program} {t : TypeId} (ht : P.underlying t = some .bool) (a b : Bool) (w : World) : (Op.equal t (.bool a) (.bool b)).run P w = .ok (a == b) w := by
  have : ∀ d, (Op.equalIn (d + 1) t (.bool a) (.bool b)).run P w = .ok (a == b) w := fun d => by
    rw [Op.equalIn]; simp [run_underlying ht]
  exact this 9999

theorem equal_ptr {P : Program} {t : TypeId} {e : TypeId} (ht : P.underlying t = some (.pointer e)) (a b : Option Addr) (h : (a.isNone || b.isNone) = true) (w : World) :
    (Op.equal t (.pointer a) (.pointer b)).run P w = .ok (a.isNone && b.isNone) w := by
  have : ∀ d, (Op.equalIn (d + 1) t (.pointer a) (.pointer b)).run P w = .ok (a.isNone && b.isNone) w := fun d => by
    rw [Op.equalIn]
    cases a with
    | none => simp [run_underlying ht]
    | some a =>
      cases b with
      | none => simp [run_underlying ht]
      | some b => simp at h
  exact this 9999

def evEqn (op : BinOp) (b : Bool) : Option (Prop × PV) :=
  match op with
  | .eql => some (True, .d (.lit (.bool b)))
  | .neq => some (True, .d (.lit (.bool (!b))))
  | _ => none

def alive : Row → Bool | .dead => false | _ => true

def evBinP (P : Program) (op : BinOp) (t : TypeId) (rows : Rows) (p q : PV) : Option (Prop × PV) :=
  match p, q with
  | .d (.lit (.bool a)), .d (.lit (.bool b)) => if tyIs P t TK.isBool then evEqn op (a == b) else none
  | .d (.lit (.pointer a)), .d (.lit (.pointer b)) => if tyIs P t TK.isPtr && (a.isNone || b.isNone) then evEqn op (a.isNone && b.isNone) else none
  | .d (.lit x), .d (.lit y) => (evBin op x y).map fun r => (r.1, .d (.lit r.2))
  | .ptr i _, .d (.lit (.pointer none)) => if tyIs P t TK.isPtr && alive (rows i) then evEqn op false else none
  | _, _ => none

theorem run_eqn {P : Program} {op : BinOp} {t : TypeId} {u v : Value} {b : Bool} {c : Prop} {p : PV} {w : World} (ho : oc u = true) (hn : u ≠ .nilIface) (h : evEqn op b = some (c, p))
    (hb1 : binOp .eql t u v = (do pure (.bool (← Op.equal t u v)))) (hb2 : binOp .neq t u v = (do pure (.bool (!(← Op.equal t u v)))))
    (he : (Op.equal t u v).run P w = .ok b w) (x y : Operand) : ∃ z, p = .d (.lit z) ∧ (do eqGuard op t x y u v; binOp op t u v : Sem Value).run P w = .ok z w := by
  unfold evEqn at h
  split at h
  · simp only [Option.some.injEq, Prod.mk.injEq] at h
    obtain ⟨rfl, rfl⟩ := h
    refine ⟨_, rfl, ?_⟩
    simp only [Sem.run_bind, eqGuard_lit w ho hn, Result.andThen_ok, hb1, he, Sem.run_pure]
  · simp only [Option.some.injEq, Prod.mk.injEq] at h
    obtain ⟨rfl, rfl⟩ := h
    refine ⟨_, rfl, ?_⟩
    simp only [Sem.run_bind, eqGuard_lit w ho hn, Result.andThen_ok, hb2, he, Sem.run_pure]
  · cases h

theorem evEqn_c {op : BinOp} {b : Bool} {c : Prop} {p : PV} (h : evEqn op b = some (c, p)) : c = True := by
  unfold evEqn at h
  split at h <;> simp_all

theorem op_bin {P : Program} {o : Oper} {s : St} {op : BinOp} {t t' : TypeId} {x y : Operand} {c : Prop} {p : PV} (ho : o.op = .binOp op t x y t')
    (h : evBinP P op t s.rows (ev s.regs x) (ev s.regs y) = some (c, p)) : OpSound P o s (Eff.pureIf c p) := by
  unfold evBinP at h
  split at h
  · rename_i a b hx hy
    split at h
    · rename_i ht
      have hu := tyIs_bool ht
      refine sound_pure fun B β X w a' hr _ => ?_
      obtain ⟨z, rfl, hz⟩ := run_eqn (P := P) (t := t) (u := .bool a) (v := .bool b) (w := w) rfl (by simp) h rfl rfl (equal_bool hu a b w) x y
      refine ⟨z, ?_, by simp [repP, rep], trivial⟩
      simp only [execOp, ho, hr.lit hx, hr.lit hy]
      rw [Sem.run_bind, hz]; rfl
    · cases h
  · rename_i a b hx hy
    split at h
    · rename_i ht
      simp only [Bool.and_eq_true] at ht
      obtain ⟨e, hu⟩ := tyIs_ptr ht.1
      refine sound_pure fun B β X w a' hr _ => ?_
      obtain ⟨z, rfl, hz⟩ := run_eqn (P := P) (t := t) (u := .pointer a) (v := .pointer b) (w := w) rfl (by simp) h rfl rfl (equal_ptr hu a b ht.2 w) x y
      refine ⟨z, ?_, by simp [repP, rep], trivial⟩
      simp only [execOp, ho, hr.lit hx, hr.lit hy]
      rw [Sem.run_bind, hz]; rfl
    · cases h
  · rename_i u v _ _ hx hy
    simp only [Option.map_eq_some_iff] at h
    obtain ⟨r, hr0, hr1⟩ := h
    simp only [Prod.mk.injEq] at hr1
    obtain ⟨rfl, rfl⟩ := hr1
    obtain ⟨o1, o2⟩ := evBin_oc hr0
    refine sound_lit fun B β X w a' hr hc => ?_
    simp only [execOp, ho, hr.lit hx, hr.lit hy, Sem.run_bind, eqGuard_lit w o1 o2, Result.andThen_ok, evBin_ok hr0 hc, Sem.run_pure]
  · rename_i i off hx hy
    split at h
    · rename_i ht
      simp only [Bool.and_eq_true] at ht
      obtain ⟨e, hu⟩ := tyIs_ptr ht.1
      refine sound_pure fun B β X w a' hr _ => ?_
      have hxx := (hr.ev x).1
      rw [hx] at hxx
      unfold repP at hxx
      obtain ⟨b, _, h2⟩ := hxx (fun e => by rw [e] at ht; simp [alive] at ht)
      obtain ⟨z, rfl, hz⟩ := run_eqn (P := P) (t := t) (u := .pointer (some ⟨b, off, none⟩)) (v := .pointer none) (w := w) rfl (by simp) h rfl rfl (equal_ptr hu _ none rfl w) x y
      refine ⟨z, ?_, by simp [repP, rep], trivial⟩
      simp only [execOp, ho, h2, hr.lit hy]
      rw [Sem.run_bind, hz]; rfl
    · cases h
  · cases h

def evUn (op : UnOp) (x : Value) : Option Value :=
  match op, x with
  | .not, .bool b => some (.bool !b)
  | .neg, .int k n => some (.int k (k.wrap (0 - n)))
  | .xor, .int k n => some (.int k (evBits .xor k (if k.signed then -1 else k.max) n))
  | _, _ => none

theorem op_un {P : Program} {o : Oper} {s : St} {op : UnOp} {t : TypeId} {x : Operand} {u v : Value} (ho : o.op = .unOp op t x) (hx : ev s.regs x = .d (.lit u)) (h : evUn op u = some v) :
    OpSound P o s (Eff.pureIf True (.d (.lit v))) :=
  sound_lit fun B β X w a hr _ => by
    simp only [execOp, ho, hr.lit hx]
    unfold evUn at h
    split at h <;> first | (simp only [Option.some.injEq] at h; subst h; simp [Op.unary, Op.intArith, Op.intBits, evBits]) | cases h

/-- bytes that cells hold -/
def strOf : List (List DV) → Option (List UInt8)
  | [] => some []
  | [.lit (.int .u8 n)] :: el => match strOf el with | some l => some (UInt8.ofNat n.toNat :: l) | none => none
  | _ => none

theorem strOf_vs {w : World} {X : Nat → Prop} : ∀ {el : List (List DV)} {bs : List UInt8} {vs : List Value}, strOf el = some bs → repss w X 1 el vs →
    ∃ ns : List Int, vs = ns.map (Value.int .u8) ∧ bs = ns.map fun n => UInt8.ofNat n.toNat
  | [], bs, vs, h, hr => by
    simp only [strOf, Option.some.injEq] at h; subst h
    unfold repss at hr; subst hr
    exact ⟨[], rfl, rfl⟩
  | e :: el, bs, vs, h, hr => by
    unfold strOf at h
    split at h
    · simp_all
    · rename_i n el' heq
      simp only [List.cons.injEq] at heq
      obtain ⟨rfl, rfl⟩ := heq
      split at h
      · rename_i l hl
        simp only [Option.some.injEq] at h; subst h
        unfold repss at hr
        obtain ⟨us, ws, h1, h2, h3, h4⟩ := hr
        unfold reps at h3
        obtain ⟨u, us', g1, g2, g3, g4⟩ := h3
        unfold reps at g4
        unfold rep at g3
        subst g4; subst g1; subst g3; subst h1
        obtain ⟨ns, i1, i2⟩ := strOf_vs hl h4
        exact ⟨n :: ns, by simp [i1], by simp [i2]⟩
      · cases h
    · cases h

theorem run_bts {P : Program} {w : World} (a : Addr) (n c : Nat) (ns : List Int) (hn : ns.length = n) (h : ∀ j u, (ns.map (Value.int .u8))[j]? = some u → w.cell? (a.add j) = some u) :
    (Conv.bytesToString (.slice (some a) n c)).run P w = .ok (.string ⟨(ns.map fun x => UInt8.ofNat x.toNat).toArray⟩) w := by
  have hl := run_loadCells_list (P := P) w a (ns.map (Value.int .u8)) h
  rw [List.length_map, hn] at hl
  rw [run_bytesToString w a n c ns (by simpa using hl), foldl_push_bytes]
  simp [ByteArray.empty, ByteArray.emptyWithCapacity]
  rfl

end Go.AM
