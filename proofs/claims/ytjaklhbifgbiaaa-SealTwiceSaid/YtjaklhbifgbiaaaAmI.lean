/- Proved here: a part of an abstract machine for the walks of this program, and that it tells the truth about the model. No condition. -/
import Derived.Test.YtjaklhbifgbiaaaAmH
set_option linter.unusedSimpArgs false
set_option linter.unusedVariables false
namespace Go.AM
open Go

/-! ## pure operations -/
theorem op_move {P : Program} {o : Oper} {s : St} {x : Operand} (ho : o.op = .move x ∨ o.op = .assign x) : OpSound P o s (Eff.pureIf True (ev s.regs x)) :=
  sound_pure fun B β X w a hr _ => ⟨a.eval x, by rcases ho with ho | ho <;> simp [execOp, ho], (hr.ev x).1, (hr.ev x).2⟩

theorem op_pick {P : Program} {o : Oper} {s : St} {c x y : Operand} {t : Bool} (ho : o.op = .pick c x y) (hc : ev s.regs c = .d (.lit (.bool t))) :
    OpSound P o s (Eff.pureIf True (if t then ev s.regs x else ev s.regs y)) :=
  sound_pure fun B β X w a hr _ => by
    have h1 := hr.lit hc
    refine ⟨if t then a.eval x else a.eval y, by simp [execOp, ho, h1, asBool], ?_⟩
    cases t
    · exact ⟨(hr.ev y).1, (hr.ev y).2⟩
    · exact ⟨(hr.ev x).1, (hr.ev x).2⟩

/-- a value of its own -/
theorem sound_lit {P : Program} {o : Oper} {s : St} {c : Prop} {v : Value} (h : ∀ B β X w a, SRel B β X w a s → c → (execOp a.eval o).run P w = .ok (.value v) w) :
    OpSound P o s (Eff.pureIf c (.d (.lit v))) :=
  sound_pure fun B β X w a hr hc => ⟨v, h B β X w a hr hc, by simp [repP, rep], trivial⟩

theorem eqGuard_lit {P : Program} {op : BinOp} {t : TypeId} {x y : Operand} {u v : Value} (w : World) (h : oc u = true) (hn : u ≠ .nilIface) : (eqGuard op t x y u v).run P w = .ok () w := by
  unfold eqGuard
  cases u <;> simp [oc] at h hn <;> (simp only []; split <;> simp)

theorem evBin_oc {op : BinOp} {x y : Value} {r : Prop × Value} (h : evBin op x y = some r) : oc x = true ∧ x ≠ .nilIface := by
  unfold evBin at h
  split at h <;> first | exact ⟨rfl, by simp⟩ | cases h

/-- equality of structs of one-cell fields -/
def eqLit : Value → Value → Option Bool
  | .int k a, .int k' b => if k = k' then some (a == b) else none
  | .string a, .string b => some (a.toList == b.toList)
  | .bool a, .bool b => some (a == b)
  | _, _ => none

def TK.isBool : TK → Bool | .bool => true | _ => false
def TK.isPtr : TK → Bool | .pointer _ => true | _ => false
def tyIs (P : Program) (t : TypeId) (f : TK → Bool) : Bool := match tyOf P t with | some ty => f ty.k | none => false

theorem tyIs_bool {P : Program} {t : TypeId} (h : tyIs P t TK.isBool = true) : P.underlying t = some .bool := by
  unfold tyIs at h
  split at h
  · rename_i ty ht
    refine tyOf_bool ht ?_
    cases hk : ty.k <;> rw [hk] at h <;> simp [TK.isBool] at h
  · cases h

theorem tyIs_ptr {P : Program} {t : TypeId} (h : tyIs P t TK.isPtr = true) : ∃ e, P.underlying t = some (.pointer e) := by
  unfold tyIs at h
  split at h
  · rename_i ty ht
    cases hk : ty.k <;> rw [hk] at h <;> simp [TK.isPtr] at h
    exact ⟨_, tyOf_pointer ht hk⟩
  · cases h

theorem equal_bool {P : Program} {t : TypeId} (ht : P.underlying t = some .bool) (a b : Bool) (w : World) : (Op.equal t (.bool a) (.bool b)).run P w = .ok (a == b) w := by
  have : ∀ d, (Op.equalIn (d + 1) t (.bool a) (.bool b)).run P w = .ok (a == b) w := fun d => by
    rw [Op.equalIn]; simp [run_underlying ht]
  exact this 9999

theorem equal_ptr {P : Program} {t : TypeId} {e : TypeId} (ht : P.underlying t = some (.pointer e)) (a b : Option Addr) (h : (a.isNone || b.isNone) = true) (w : World) :
    (Op.equal t (.pointer a) (.pointer b)).run P w = .ok (a.isNone && b.isNone) w := by
  have : ∀ d, (Op.equalIn (d + 1) t (.pointer a) (.pointer b)).run P w = .ok (a.isNone && b.isNone) w := fun d => by
    rw [Op.equalIn]
    cases a with
    | none => simp [run_underlying ht]
    | some a =>
      cases b with
      | none => simp [run_underlying ht]
      | some b => simp at h
  exact this 9999

def evEqn (op : BinOp) (b : Bool) : Option (Prop × PV) :=
  match op with
  | .eql => some (True, .d (.lit (.bool b)))
  | .neq => some (True, .d (.lit (.bool (!b))))
  | _ => none

def alive : Row → Bool | .dead => false | _ => true

/-! ### structs of one-cell fields -/
def kLeaf : TK → Bool | .int _ => true | .string => true | .bool => true | _ => false
def leafK (P : Program) (t : TypeId) : Option TK := match tyOf P t with | some ty => if kLeaf ty.k = true ∧ ty.size = 1 then some ty.k else none | none => none
def flatFs (P : Program) : Nat → List Field → Option (List TK)
  | _, [] => some []
  | i, f :: fs => if f.name != "_" && f.offset == i then (match leafK P f.type, flatFs P (i + 1) fs with | some k, some ks => some (k :: ks) | _, _ => none) else none
/-- the kinds of a struct's fields, if each is one cell, and comparable; of an array's elements -/
def flatK (P : Program) (t : TypeId) : Option (List TK) :=
  if P.eqGuardType P.depth t = false ∧ P.stoodInHeld t = false then
    match P.underlying t with
    | some (.struct fs) => flatFs P 0 fs.toList
    | _ => none
  else none
def eqK : TK → Value → Value → Option Bool
  | .int _, .int k a, .int k' b => if k = k' then some (a == b) else none
  | .string, .string a, .string b => some (a.toList == b.toList)
  | .bool, .bool a, .bool b => some (a == b)
  | _, _, _ => none
def eqLits : List TK → List DV → List DV → Option Bool
  | [], [], [] => some true
  | k :: ks, .lit u :: xs, .lit v :: ys => match eqK k u v, eqLits ks xs ys with | some b, some c => some (b && c) | _, _ => none
  | _, _, _ => none

theorem leafK_spec {P : Program} {t : TypeId} {k : TK} (h : leafK P t = some k) : ∃ ty, tyOf P t = some ty ∧ ty.k = k ∧ kLeaf k = true := by
  unfold leafK at h
  split at h
  · rename_i ty ht
    split at h
    · rename_i hk
      simp only [Option.some.injEq] at h
      exact ⟨ty, ht, h, by rw [← h]; exact hk.1⟩
    · cases h
  · cases h

theorem eqK_run {P : Program} {t : TypeId} {k : TK} (h : leafK P t = some k) {u v : Value} {b : Bool} (he : eqK k u v = some b) (w : World) (d : Nat) : (Op.equalIn (d + 1) t u v).run P w = .ok b w := by
  obtain ⟨ty, h1, h2, h3⟩ := leafK_spec h
  unfold eqK at he
  split at he
  · split at he
    · rename_i hkk
      subst hkk
      simp only [Option.some.injEq] at he; subst he
      exact run_equalIn_int w d t _ _ _ _ (tyOf_int h1 h2)
    · cases he
  · simp only [Option.some.injEq] at he; subst he
    exact run_equalIn_string w d t _ _ (tyOf_string h1 h2)
  · simp only [Option.some.injEq] at he; subst he
    exact run_equalIn_bool' w d t _ _ (tyOf_bool h1 h2)
  · cases he

theorem leaf_part {P : Program} {t : TypeId} {k : TK} (h : leafK P t = some k) {cs : Array Value} {i : Nat} {u : Value} (hc : cs[i]? = some u) (w : World) : (part t cs i).run P w = .ok u w := by
  obtain ⟨ty, h1, h2, h3⟩ := leafK_spec h
  have ha : ty.k.agg = false := by rw [h2]; cases k <;> simp [kLeaf, TK.agg] at h3 ⊢
  simp only [part, Sem.run_bind, tyOf_agg h1, Result.andThen_ok, ha, Bool.false_eq_true, if_false, hc, Sem.run_pure]

theorem eqFields_flat {P : Program} (d : Nat) (w : World) (xs ys : Array Value) : ∀ (fs : List Field) (ks : List TK) (i : Nat) (as bs : List Value) (b : Bool), flatFs P i fs = some ks → xs.toList.drop i = as → ys.toList.drop i = bs →
    eqLits ks (as.map .lit) (bs.map .lit) = some b → (Op.eqFields (d + 1) xs ys fs).run P w = .ok b w
  | [], ks, i, as, bs, b, hf, ha, hb, he => by
    simp only [flatFs, Option.some.injEq] at hf; subst hf
    cases as <;> cases bs <;> simp [eqLits] at he
    subst he; rfl
  | f :: fs, ks, i, as, bs, b, hf, ha, hb, he => by
    simp only [flatFs] at hf
    split at hf
    · rename_i hn
      simp only [Bool.and_eq_true, bne_iff_ne, beq_iff_eq] at hn
      split at hf
      · rename_i k ks' hk hks
        simp only [Option.some.injEq] at hf; subst hf
        cases as with
        | nil => simp [eqLits] at he
        | cons u as =>
          cases bs with
          | nil => simp [eqLits] at he
          | cons v bs =>
            simp only [List.map_cons, eqLits] at he
            split at he
            · rename_i c c' h1 h2
              simp only [Option.some.injEq] at he; subst he
              have gx : xs[i]? = some u := by
                have := congrArg (·[0]?) ha
                simpa using this
              have gy : ys[i]? = some v := by
                have := congrArg (·[0]?) hb
                simpa using this
              have dx : xs.toList.drop (i + 1) = as := by rw [← List.drop_drop, ha]; rfl
              have dy : ys.toList.drop (i + 1) = bs := by rw [← List.drop_drop, hb]; rfl
              have ih := eqFields_flat d w xs ys fs ks' (i + 1) as bs c' hks dx dy h2
              have px := leaf_part hk (i := f.offset) (hn.2 ▸ gx) w
              have py := leaf_part hk (i := f.offset) (hn.2 ▸ gy) w
              simp only [Op.eqFields, hn.1, ne_eq, not_false_eq_true, if_true, Sem.run_bind, px, py, eqK_run hk h1, Result.andThen_ok]
              cases c
              · simp
              · simpa using ih
            · cases he
      · cases hf
    · cases hf

theorem eqLits_lits : ∀ {ks : List TK} {xs ys : List DV} {b : Bool}, eqLits ks xs ys = some b → ∃ as bs : List Value, xs = as.map .lit ∧ ys = bs.map .lit ∧ as.all oc = true ∧ bs.all oc = true
  | [], [], [], b, _ => ⟨[], [], rfl, rfl, rfl, rfl⟩
  | k :: ks, .lit u :: xs, .lit v :: ys, b, h => by
    simp only [eqLits] at h
    split at h
    · rename_i c c' h1 h2
      obtain ⟨as, bs, rfl, rfl, e1, e2⟩ := eqLits_lits h2
      have : oc u = true ∧ oc v = true := by
        unfold eqK at h1
        split at h1 <;> first | exact ⟨rfl, rfl⟩ | cases h1
      exact ⟨u :: as, v :: bs, rfl, rfl, by simp [this.1]; simpa using e1, by simp [this.2]; simpa using e2⟩
    · cases h
  | [], [], _ :: _, _, h => by simp [eqLits] at h
  | [], _ :: _, _, _, h => by simp [eqLits] at h
  | _ :: _, [], _, _, h => by simp [eqLits] at h
  | _ :: _, .sl _ _ :: _, _, _, h => by simp [eqLits] at h
  | _ :: _, .agg _ :: _, _, _, h => by simp [eqLits] at h
  | _ :: _, .lit _ :: _, [], _, h => by simp [eqLits] at h
  | _ :: _, .lit _ :: _, .sl _ _ :: _, _, h => by simp [eqLits] at h
  | _ :: _, .lit _ :: _, .agg _ :: _, _, h => by simp [eqLits] at h

theorem reps_lits_eq {w : World} {X : Nat → Prop} : ∀ {as vs : List Value}, reps w X (as.map .lit) vs → vs = as
  | [], vs, h => by simpa [reps] using h
  | a :: as, vs, h => by
    simp only [List.map_cons] at h
    unfold reps at h
    obtain ⟨u, us, rfl, _, h2, h3⟩ := h
    unfold rep at h2
    rw [h2, reps_lits_eq h3]

theorem flatK_eq {P : Program} {t : TypeId} {ks : List TK} (h : flatK P t = some ks) {as bs : List Value} {b : Bool} (he : eqLits ks (as.map .lit) (bs.map .lit) = some b) (w : World) :
    (Op.equal t (.agg as.toArray) (.agg bs.toArray)).run P w = .ok b w ∧ P.eqGuardType P.depth t = false := by
  unfold flatK at h
  split at h
  · rename_i hg
    split at h
    · rename_i fs hu
      refine ⟨?_, hg.1⟩
      have hfo : P.fieldsOf t = fs := by unfold Program.fieldsOf; rw [hu]
      show (Op.equalIn 10000 t _ _).run P w = _
      rw [run_equalIn_struct w 9999 t _ _ (by rw [hfo]; exact hu) hg.2, hfo]
      exact eqFields_flat 9998 w _ _ _ _ 0 as bs b h rfl rfl he
    · cases h
  · cases h

theorem tyIs_sl0 {P : Program} {t : TypeId} {f : TK → Bool} (hf : ∀ k, f k = true → ∃ e, k = .slice e) (h : tyIs P t f = true) : ∃ e, P.underlying t = some (.slice e) := by
  unfold tyIs at h
  split at h
  · rename_i ty ht
    obtain ⟨e, he⟩ := hf _ h
    exact ⟨e, tyOf_slice ht he⟩
  · cases h
theorem run_eqIn_slice_nil {P : Program} (w : World) (d : Nat) (t e : TypeId) (a : Option Addr) (l c : Nat) (h : P.underlying t = some (.slice e)) : (Op.equalIn (d + 1) t (.slice a l c) (.slice none 0 0)).run P w = .ok a.isNone w := by
  cases a <;> simp [Op.equalIn, run_underlying h]
theorem run_eq_slice_nil {P : Program} (w : World) (t e : TypeId) (a : Option Addr) (l c : Nat) (h : P.underlying t = some (.slice e)) : (Op.equal t (.slice a l c) (.slice none 0 0)).run P w = .ok a.isNone w :=
  run_eqIn_slice_nil w 9999 t e a l c h
def TK.isSl0 : TK → Bool | .slice _ => true | _ => false
def evBinP (P : Program) (op : BinOp) (t : TypeId) (rows : Rows) (p q : PV) : Option (Prop × PV) :=
  match p, q with
  | .d (.lit (.bool a)), .d (.lit (.bool b)) => if tyIs P t TK.isBool then evEqn op (a == b) else none
  | .d (.lit (.pointer a)), .d (.lit (.pointer b)) => if tyIs P t TK.isPtr && (a.isNone || b.isNone) then evEqn op (a.isNone && b.isNone) else none
  | .d (.lit (.slice a _ _)), .d (.lit (.slice none 0 0)) => if tyIs P t TK.isSl0 then evEqn op a.isNone else none
  | .d (.lit x), .d (.lit y) => (evBin op x y).map fun r => (r.1, .d (.lit r.2))
  | .ptr i _, .d (.lit (.pointer none)) => if tyIs P t TK.isPtr && alive (rows i) then evEqn op false else none
  | .d (.sl sz el), .d (.lit (.slice none 0 0)) => if 0 < sz ∧ 0 < el.length ∧ tyIs P t TK.isSl0 = true then evEqn op false else none
  | .d (.agg xs), .d (.agg ys) => match flatK P t with
    | some ks => match eqLits ks xs ys with | some b => evEqn op b | none => none
    | none => none
  | _, _ => none

theorem run_eqn {P : Program} {op : BinOp} {t : TypeId} {u v : Value} {b : Bool} {c : Prop} {p : PV} {w : World} (ho : oc u = true) (hn : u ≠ .nilIface) (h : evEqn op b = some (c, p))
    (hb1 : binOp .eql t u v = (do pure (.bool (← Op.equal t u v)))) (hb2 : binOp .neq t u v = (do pure (.bool (!(← Op.equal t u v)))))
    (he : (Op.equal t u v).run P w = .ok b w) (x y : Operand) : ∃ z, p = .d (.lit z) ∧ (do eqGuard op t x y u v; binOp op t u v : Sem Value).run P w = .ok z w := by
  unfold evEqn at h
  split at h
  · simp only [Option.some.injEq, Prod.mk.injEq] at h
    obtain ⟨rfl, rfl⟩ := h
    refine ⟨_, rfl, ?_⟩
    simp only [Sem.run_bind, eqGuard_lit w ho hn, Result.andThen_ok, hb1, he, Sem.run_pure]
  · simp only [Option.some.injEq, Prod.mk.injEq] at h
    obtain ⟨rfl, rfl⟩ := h
    refine ⟨_, rfl, ?_⟩
    simp only [Sem.run_bind, eqGuard_lit w ho hn, Result.andThen_ok, hb2, he, Sem.run_pure]
  · cases h

theorem evEqn_c {op : BinOp} {b : Bool} {c : Prop} {p : PV} (h : evEqn op b = some (c, p)) : c = True := by
  unfold evEqn at h
  split at h <;> simp_all

theorem op_bin {P : Program} {o : Oper} {s : St} {op : BinOp} {t t' : TypeId} {x y : Operand} {c : Prop} {p : PV} (ho : o.op = .binOp op t x y t')
    (h : evBinP P op t s.rows (ev s.regs x) (ev s.regs y) = some (c, p)) : OpSound P o s (Eff.pureIf c p) := by
  unfold evBinP at h
  split at h
  · rename_i a b hx hy
    split at h
    · rename_i ht
      have hu := tyIs_bool ht
      refine sound_pure fun B β X w a' hr _ => ?_
      obtain ⟨z, rfl, hz⟩ := run_eqn (P := P) (t := t) (u := .bool a) (v := .bool b) (w := w) rfl (by simp) h rfl rfl (equal_bool hu a b w) x y
      refine ⟨z, ?_, by simp [repP, rep], trivial⟩
      simp only [execOp, ho, hr.lit hx, hr.lit hy]
      rw [Sem.run_bind, hz]; rfl
    · cases h
  · rename_i a b hx hy
    split at h
    · rename_i ht
      simp only [Bool.and_eq_true] at ht
      obtain ⟨e, hu⟩ := tyIs_ptr ht.1
      refine sound_pure fun B β X w a' hr _ => ?_
      obtain ⟨z, rfl, hz⟩ := run_eqn (P := P) (t := t) (u := .pointer a) (v := .pointer b) (w := w) rfl (by simp) h rfl rfl (equal_ptr hu a b ht.2 w) x y
      refine ⟨z, ?_, by simp [repP, rep], trivial⟩
      simp only [execOp, ho, hr.lit hx, hr.lit hy]
      rw [Sem.run_bind, hz]; rfl
    · cases h
  · rename_i ad l cp hx hy
    split at h
    · rename_i ht
      obtain ⟨e, hu⟩ := tyIs_sl0 (fun k hk => by cases k <;> simp [TK.isSl0] at hk; exact ⟨_, rfl⟩) ht
      refine sound_pure fun B β X w a' hr _ => ?_
      obtain ⟨z, rfl, hz⟩ := run_eqn (P := P) (t := t) (u := .slice ad l cp) (v := .slice none 0 0) (w := w) rfl (by simp) h rfl rfl (run_eq_slice_nil w t e ad l cp hu) x y
      refine ⟨z, ?_, by simp [repP, rep], trivial⟩
      simp only [execOp, ho, hr.lit hx, hr.lit hy]
      rw [Sem.run_bind, hz]; rfl
    · cases h
  · rename_i u v _ _ _ hx hy
    simp only [Option.map_eq_some_iff] at h
    obtain ⟨r, hr0, hr1⟩ := h
    simp only [Prod.mk.injEq] at hr1
    obtain ⟨rfl, rfl⟩ := hr1
    obtain ⟨o1, o2⟩ := evBin_oc hr0
    refine sound_lit fun B β X w a' hr hc => ?_
    simp only [execOp, ho, hr.lit hx, hr.lit hy, Sem.run_bind, eqGuard_lit w o1 o2, Result.andThen_ok, evBin_ok hr0 hc, Sem.run_pure]
  · rename_i i off hx hy
    split at h
    · rename_i ht
      simp only [Bool.and_eq_true] at ht
      obtain ⟨e, hu⟩ := tyIs_ptr ht.1
      refine sound_pure fun B β X w a' hr _ => ?_
      have hxx := (hr.ev x).1
      rw [hx] at hxx
      unfold repP at hxx
      obtain ⟨b, _, h2⟩ := hxx (fun e => by rw [e] at ht; simp [alive] at ht)
      obtain ⟨z, rfl, hz⟩ := run_eqn (P := P) (t := t) (u := .pointer (some ⟨b, off, none⟩)) (v := .pointer none) (w := w) rfl (by simp) h rfl rfl (equal_ptr hu _ none rfl w) x y
      refine ⟨z, ?_, by simp [repP, rep], trivial⟩
      simp only [execOp, ho, h2, hr.lit hy]
      rw [Sem.run_bind, hz]; rfl
    · cases h
  · rename_i sz el hx hy
    split at h
    · rename_i ht
      obtain ⟨e, hu⟩ := tyIs_sl0 (fun k hk => by cases k <;> simp [TK.isSl0] at hk; exact ⟨_, rfl⟩) ht.2.2
      refine sound_pure fun B β X w a' hr _ => ?_
      have hxx := (hr.ev x).1
      rw [hx] at hxx
      unfold repP rep at hxx
      obtain ⟨ad, cap, vs, h1, h2, h3, h4, h5⟩ := hxx
      have hlen := repss_length h4
      have hne : vs ≠ [] := by
        intro e; subst e
        have := Nat.mul_pos ht.2.1 ht.1
        simp at hlen; omega
      obtain ⟨b, off, rfl, _⟩ := h5 hne
      obtain ⟨z, rfl, hz⟩ := run_eqn (P := P) (t := t) (u := .slice (some ⟨b, off, none⟩) el.length cap) (v := .slice none 0 0) (w := w) rfl (by simp) h rfl rfl (run_eq_slice_nil w t e _ _ _ hu) x y
      refine ⟨z, ?_, by simp [repP, rep], trivial⟩
      simp only [execOp, ho, h1, hr.lit hy]
      rw [Sem.run_bind, hz]; rfl
    · cases h
  · rename_i xs ys hx hy
    split at h
    · rename_i ks hks
      split at h
      · rename_i b hb
        refine sound_pure fun B β X w a' hr _ => ?_
        obtain ⟨as, bs, rfl, rfl, o1, o2⟩ := eqLits_lits hb
        obtain ⟨q1, q2⟩ := flatK_eq hks hb w
        have hxx := (hr.ev x).1
        rw [hx] at hxx
        have hyy := (hr.ev y).1
        rw [hy] at hyy
        unfold repP rep at hxx hyy
        obtain ⟨vs, h1, h2⟩ := hxx
        obtain ⟨ws, h3, h4⟩ := hyy
        have e1 := reps_lits_eq h2
        have e2 := reps_lits_eq h4
        subst e1; subst e2
        unfold evEqn at h
        split at h
        · simp only [Option.some.injEq, Prod.mk.injEq] at h
          obtain ⟨rfl, rfl⟩ := h
          refine ⟨.bool b, ?_, by simp [repP, rep], trivial⟩
          simp only [execOp, ho, h1, h3, Sem.run_bind, run_eqGuard_agg w _ _ _ _ _ _ q2, Result.andThen_ok, binOp, q1, Sem.run_pure]
        · simp only [Option.some.injEq, Prod.mk.injEq] at h
          obtain ⟨rfl, rfl⟩ := h
          refine ⟨.bool (!b), ?_, by simp [repP, rep], trivial⟩
          simp only [execOp, ho, h1, h3, Sem.run_bind, run_eqGuard_agg w _ _ _ _ _ _ q2, Result.andThen_ok, binOp, q1, Sem.run_pure]
        · cases h
      · cases h
    · cases h
  · cases h

def evUn (op : UnOp) (x : Value) : Option Value :=
  match op, x with
  | .not, .bool b => some (.bool !b)
  | .neg, .int k n => some (.int k (k.wrap (0 - n)))
  | .xor, .int k n => some (.int k (evBits .xor k (if k.signed then -1 else k.max) n))
  | _, _ => none

theorem op_un {P : Program} {o : Oper} {s : St} {op : UnOp} {t : TypeId} {x : Operand} {u v : Value} (ho : o.op = .unOp op t x) (hx : ev s.regs x = .d (.lit u)) (h : evUn op u = some v) :
    OpSound P o s (Eff.pureIf True (.d (.lit v))) :=
  sound_lit fun B β X w a hr _ => by
    simp only [execOp, ho, hr.lit hx]
    unfold evUn at h
    split at h <;> first | (simp only [Option.some.injEq] at h; subst h; simp [Op.unary, Op.intArith, Op.intBits, evBits]) | cases h

/-- bytes that cells hold -/
def strOf : List (List DV) → Option (List UInt8)
  | [] => some []
  | [.lit (.int .u8 n)] :: el => match strOf el with | some l => some (UInt8.ofNat n.toNat :: l) | none => none
  | _ => none

theorem strOf_vs {w : World} {X : Nat → Prop} : ∀ {el : List (List DV)} {bs : List UInt8} {vs : List Value}, strOf el = some bs → repss w X 1 el vs →
    ∃ ns : List Int, vs = ns.map (Value.int .u8) ∧ bs = ns.map fun n => UInt8.ofNat n.toNat
  | [], bs, vs, h, hr => by
    simp only [strOf, Option.some.injEq] at h; subst h
    unfold repss at hr; subst hr
    exact ⟨[], rfl, rfl⟩
  | e :: el, bs, vs, h, hr => by
    unfold strOf at h
    split at h
    · simp_all
    · rename_i n el' heq
      simp only [List.cons.injEq] at heq
      obtain ⟨rfl, rfl⟩ := heq
      split at h
      · rename_i l hl
        simp only [Option.some.injEq] at h; subst h
        unfold repss at hr
        obtain ⟨us, ws, h1, h2, h3, h4⟩ := hr
        unfold reps at h3
        obtain ⟨u, us', g1, g2, g3, g4⟩ := h3
        unfold reps at g4
        unfold rep at g3
        subst g4; subst g1; subst g3; subst h1
        obtain ⟨ns, i1, i2⟩ := strOf_vs hl h4
        exact ⟨n :: ns, by simp [i1], by simp [i2]⟩
      · cases h
    · cases h

theorem run_bts {P : Program} {w : World} (a : Addr) (n c : Nat) (ns : List Int) (hn : ns.length = n) (h : ∀ j u, (ns.map (Value.int .u8))[j]? = some u → w.cell? (a.add j) = some u) :
    (Conv.bytesToString (.slice (some a) n c)).run P w = .ok (.string ⟨(ns.map fun x => UInt8.ofNat x.toNat).toArray⟩) w := by
  have hl := run_loadCells_list (P := P) w a (ns.map (Value.int .u8)) h
  rw [List.length_map, hn] at hl
  rw [run_bytesToString w a n c ns (by simpa using hl), foldl_push_bytes]
  simp [ByteArray.empty, ByteArray.emptyWithCapacity]
  rfl

end Go.AM
