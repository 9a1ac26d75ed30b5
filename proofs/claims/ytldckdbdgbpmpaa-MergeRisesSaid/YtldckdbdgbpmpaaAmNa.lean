/- Proved here: operations of an abstract machine for the walks of this program tell the truth about the model. No condition. -/
import Derived.Test.YtldckdbdgbpmpaaAmH
import Derived.ChangeKeysEq
import Derived.Laws.MakeOwn
set_option linter.unusedSimpArgs false
set_option linter.unusedVariables false
namespace Go.AM
open Go

/-! ## pure operations -/
theorem op_move {P : Program} {o : Oper} {s : St} {x : Operand} (ho : o.op = .move x ∨ o.op = .assign x) : OpSound P o s (Eff.pureIf True (ev s.regs x)) :=
  sound_pure fun B β X w a hr _ => ⟨a.eval x, by rcases ho with ho | ho <;> simp [execOp, ho], (hr.ev x).1, (hr.ev x).2⟩

theorem op_pick {P : Program} {o : Oper} {s : St} {c x y : Operand} {t : Bool} (ho : o.op = .pick c x y) (hc : ev s.regs c = .d (.lit (.bool t))) :
    OpSound P o s (Eff.pureIf True (if t then ev s.regs x else ev s.regs y)) :=
  sound_pure fun B β X w a hr _ => by
    have h1 := hr.lit hc
    refine ⟨if t then a.eval x else a.eval y, by simp [execOp, ho, h1, asBool], ?_⟩
    cases t
    · exact ⟨(hr.ev y).1, (hr.ev y).2⟩
    · exact ⟨(hr.ev x).1, (hr.ev x).2⟩

/-- a value of its own -/
theorem sound_lit {P : Program} {o : Oper} {s : St} {c : Prop} {v : Value} (h : ∀ B β X w a, SRel B β X w a s → c → (execOp a.eval o).run P w = .ok (.value v) w) :
    OpSound P o s (Eff.pureIf c (.d (.lit v))) :=
  sound_pure fun B β X w a hr hc => ⟨v, h B β X w a hr hc, by simp [repP, rep], trivial⟩

theorem eqGuard_lit {P : Program} {op : BinOp} {t : TypeId} {x y : Operand} {u v : Value} (w : World) (h : oc u = true) (hn : u ≠ .nilIface) : (eqGuard op t x y u v).run P w = .ok () w := by
  unfold eqGuard
  cases u <;> simp [oc] at h hn <;> (simp only []; split <;> simp)

theorem evBin_oc {op : BinOp} {x y : Value} {r : Prop × Value} (h : evBin op x y = some r) : oc x = true ∧ x ≠ .nilIface := by
  unfold evBin at h
  split at h <;> first | exact ⟨rfl, by simp⟩ | cases h

/-- equality of structs of one-cell fields -/
def eqLit : Value → Value → Option Bool
  | .int k a, .int k' b => if k = k' then some (a == b) else none
  | .string a, .string b => some (a.toList == b.toList)
  | .bool a, .bool b => some (a == b)
  | _, _ => none

def TK.isBool : TK → Bool | .bool => true | _ => false
def TK.isPtr : TK → Bool | .pointer _ => true | _ => false
def tyIs (P : Program) (t : TypeId) (f : TK → Bool) : Bool := match tyOf P t with | some ty => f ty.k | none => false

theorem tyIs_bool {P : Program} {t : TypeId} (h : tyIs P t TK.isBool = true) : P.underlying t = some .bool := by
  unfold tyIs at h
  split at h
  · rename_i ty ht
    refine tyOf_bool ht ?_
    cases hk : ty.k <;> rw [hk] at h <;> simp [TK.isBool] at h
  · cases h

theorem tyIs_ptr {P : Program} {t : TypeId} (h : tyIs P t TK.isPtr = true) : ∃ e, P.underlying t = some (.pointer e) := by
  unfold tyIs at h
  split at h
  · rename_i ty ht
    cases hk : ty.k <;> rw [hk] at h <;> simp [TK.isPtr] at h
    exact ⟨_, tyOf_pointer ht hk⟩
  · cases h

theorem equal_bool {P : Program} {t : TypeId} (ht : P.underlying t = some .bool) (a b : Bool) (w : World) : (Op.equal t (.bool a) (.bool b)).run P w = .ok (a == b) w := by
  have : ∀ d, (Op.equalIn (d + 1) t (.bool a) (.bool b)).run P w = .ok (a == b) w := fun d => by
    rw [Op.equalIn]; simp [run_underlying ht]
  exact this 9999

theorem equal_ptr {P : Program} {t : TypeId} {e : TypeId} (ht : P.underlying t = some (.pointer e)) (a b : Option Addr) (h : (a.isNone || b.isNone) = true) (w : World) :
    (Op.equal t (.pointer a) (.pointer b)).run P w = .ok (a.isNone && b.isNone) w := by
  have : ∀ d, (Op.equalIn (d + 1) t (.pointer a) (.pointer b)).run P w = .ok (a.isNone && b.isNone) w := fun d => by
    rw [Op.equalIn]
    cases a with
    | none => simp [run_underlying ht]
    | some a =>
      cases b with
      | none => simp [run_underlying ht]
      | some b => simp at h
  exact this 9999

def evEqn (op : BinOp) (b : Bool) : Option (Prop × PV) :=
  match op with
  | .eql => some (True, .d (.lit (.bool b)))
  | .neq => some (True, .d (.lit (.bool (!b))))
  | _ => none

def alive : Row → Bool | .dead => false | _ => true

/-! ### structs of one-cell fields -/
def kLeaf : TK → Bool | .int _ => true | .string => true | .bool => true | _ => false
def leafK (P : Program) (t : TypeId) : Option TK := match tyOf P t with | some ty => if kLeaf ty.k = true ∧ ty.size = 1 then some ty.k else none | none => none
def flatFs (P : Program) : Nat → List Field → Option (List TK)
  | _, [] => some []
  | i, f :: fs => if f.name != "_" && f.offset == i then (match leafK P f.type, flatFs P (i + 1) fs with | some k, some ks => some (k :: ks) | _, _ => none) else none
/-- the kinds of a struct's fields, if each is one cell, and comparable; of an array's elements -/
def flatK (P : Program) (t : TypeId) : Option (List TK) :=
  if P.eqGuardType P.depth t = false ∧ P.stoodInHeld t = false then
    match P.underlying t with
    | some (.struct fs) => flatFs P 0 fs.toList
    | some (.array n e) => (leafK P e).map (List.replicate n)
    | _ => none
  else none
def eqK : TK → Value → Value → Option Bool
  | .int _, .int k a, .int k' b => if k = k' then some (a == b) else none
  | .string, .string a, .string b => some (a.toList == b.toList)
  | .bool, .bool a, .bool b => some (a == b)
  | _, _, _ => none
def eqLits : List TK → List DV → List DV → Option Bool
  | [], [], [] => some true
  | k :: ks, .lit u :: xs, .lit v :: ys => match eqK k u v, eqLits ks xs ys with | some b, some c => some (b && c) | _, _ => none
  | _, _, _ => none

theorem leafK_spec {P : Program} {t : TypeId} {k : TK} (h : leafK P t = some k) : ∃ ty, tyOf P t = some ty ∧ ty.k = k ∧ kLeaf k = true := by
  unfold leafK at h
  split at h
  · rename_i ty ht
    split at h
    · rename_i hk
      simp only [Option.some.injEq] at h
      exact ⟨ty, ht, h, by rw [← h]; exact hk.1⟩
    · cases h
  · cases h

theorem eqK_run {P : Program} {t : TypeId} {k : TK} (h : leafK P t = some k) {u v : Value} {b : Bool} (he : eqK k u v = some b) (w : World) (d : Nat) : (Op.equalIn (d + 1) t u v).run P w = .ok b w := by
  obtain ⟨ty, h1, h2, h3⟩ := leafK_spec h
  unfold eqK at he
  split at he
  · split at he
    · rename_i hkk
      subst hkk
      simp only [Option.some.injEq] at he; subst he
      exact run_equalIn_int w d t _ _ _ _ (tyOf_int h1 h2)
    · cases he
  · simp only [Option.some.injEq] at he; subst he
    exact run_equalIn_string w d t _ _ (tyOf_string h1 h2)
  · simp only [Option.some.injEq] at he; subst he
    exact run_equalIn_bool' w d t _ _ (tyOf_bool h1 h2)
  · cases he

theorem leaf_part {P : Program} {t : TypeId} {k : TK} (h : leafK P t = some k) {cs : Array Value} {i : Nat} {u : Value} (hc : cs[i]? = some u) (w : World) : (part t cs i).run P w = .ok u w := by
  obtain ⟨ty, h1, h2, h3⟩ := leafK_spec h
  have ha : ty.k.agg = false := by rw [h2]; cases k <;> simp [kLeaf, TK.agg] at h3 ⊢
  simp only [part, Sem.run_bind, tyOf_agg h1, Result.andThen_ok, ha, Bool.false_eq_true, if_false, hc, Sem.run_pure]

theorem eqFields_flat {P : Program} (d : Nat) (w : World) (xs ys : Array Value) : ∀ (fs : List Field) (ks : List TK) (i : Nat) (as bs : List Value) (b : Bool), flatFs P i fs = some ks → xs.toList.drop i = as → ys.toList.drop i = bs →
    eqLits ks (as.map .lit) (bs.map .lit) = some b → (Op.eqFields (d + 1) xs ys fs).run P w = .ok b w
  | [], ks, i, as, bs, b, hf, ha, hb, he => by
    simp only [flatFs, Option.some.injEq] at hf; subst hf
    cases as <;> cases bs <;> simp [eqLits] at he
    subst he; rfl
  | f :: fs, ks, i, as, bs, b, hf, ha, hb, he => by
    simp only [flatFs] at hf
    split at hf
    · rename_i hn
      simp only [Bool.and_eq_true, bne_iff_ne, beq_iff_eq] at hn
      split at hf
      · rename_i k ks' hk hks
        simp only [Option.some.injEq] at hf; subst hf
        cases as with
        | nil => simp [eqLits] at he
        | cons u as =>
          cases bs with
          | nil => simp [eqLits] at he
          | cons v bs =>
            simp only [List.map_cons, eqLits] at he
            split at he
            · rename_i c c' h1 h2
              simp only [Option.some.injEq] at he; subst he
              have gx : xs[i]? = some u := by
                have := congrArg (·[0]?) ha
                simpa using this
              have gy : ys[i]? = some v := by
                have := congrArg (·[0]?) hb
                simpa using this
              have dx : xs.toList.drop (i + 1) = as := by rw [← List.drop_drop, ha]; rfl
              have dy : ys.toList.drop (i + 1) = bs := by rw [← List.drop_drop, hb]; rfl
              have ih := eqFields_flat d w xs ys fs ks' (i + 1) as bs c' hks dx dy h2
              have px := leaf_part hk (i := f.offset) (hn.2 ▸ gx) w
              have py := leaf_part hk (i := f.offset) (hn.2 ▸ gy) w
              simp only [Op.eqFields, hn.1, ne_eq, not_false_eq_true, if_true, Sem.run_bind, px, py, eqK_run hk h1, Result.andThen_ok]
              cases c
              · simp
              · simpa using ih
            · cases he
      · cases hf
    · cases hf

theorem eqItems_flat {P : Program} (d : Nat) (w : World) (xs ys : Array Value) {e : TypeId} {k : TK} (hk : leafK P e = some k) : ∀ (m i : Nat) (as bs : List Value) (b : Bool), xs.toList.drop i = as → ys.toList.drop i = bs →
    eqLits (List.replicate m k) (as.map .lit) (bs.map .lit) = some b → (Op.eqItems (d + 1) e 1 xs ys (List.range' i m)).run P w = .ok b w
  | 0, i, as, bs, b, ha, hb, he => by
    cases as <;> cases bs <;> simp [eqLits] at he
    subst he; rfl
  | m + 1, i, as, bs, b, ha, hb, he => by
    cases as with
    | nil => simp [List.replicate_succ, eqLits] at he
    | cons u as =>
      cases bs with
      | nil => simp [List.replicate_succ, eqLits] at he
      | cons v bs =>
        simp only [List.replicate_succ, List.map_cons, eqLits] at he
        split at he
        · rename_i c c' h1 h2
          simp only [Option.some.injEq] at he; subst he
          have gx : xs[i]? = some u := by
            have := congrArg (·[0]?) ha
            simpa using this
          have gy : ys[i]? = some v := by
            have := congrArg (·[0]?) hb
            simpa using this
          have dx : xs.toList.drop (i + 1) = as := by rw [← List.drop_drop, ha]; rfl
          have dy : ys.toList.drop (i + 1) = bs := by rw [← List.drop_drop, hb]; rfl
          have ih := eqItems_flat d w xs ys hk m (i + 1) as bs c' dx dy h2
          have px := leaf_part hk (i := i * 1) (by rw [Nat.mul_one]; exact gx) w
          have py := leaf_part hk (i := i * 1) (by rw [Nat.mul_one]; exact gy) w
          simp only [List.range'_succ, Op.eqItems, Sem.run_bind, px, py, eqK_run hk h1, Result.andThen_ok]
          cases c
          · simp
          · simpa using ih
        · cases he

theorem eqLits_lits : ∀ {ks : List TK} {xs ys : List DV} {b : Bool}, eqLits ks xs ys = some b → ∃ as bs : List Value, xs = as.map .lit ∧ ys = bs.map .lit ∧ as.all oc = true ∧ bs.all oc = true
  | [], [], [], b, _ => ⟨[], [], rfl, rfl, rfl, rfl⟩
  | k :: ks, .lit u :: xs, .lit v :: ys, b, h => by
    simp only [eqLits] at h
    split at h
    · rename_i c c' h1 h2
      obtain ⟨as, bs, rfl, rfl, e1, e2⟩ := eqLits_lits h2
      have : oc u = true ∧ oc v = true := by
        unfold eqK at h1
        split at h1 <;> first | exact ⟨rfl, rfl⟩ | cases h1
      exact ⟨u :: as, v :: bs, rfl, rfl, by simp [this.1]; simpa using e1, by simp [this.2]; simpa using e2⟩
    · cases h
  | [], [], _ :: _, _, h => by simp [eqLits] at h
  | [], _ :: _, _, _, h => by simp [eqLits] at h
  | _ :: _, [], _, _, h => by simp [eqLits] at h
  | _ :: _, .sl _ _ :: _, _, _, h => by simp [eqLits] at h
  | _ :: _, .agg _ :: _, _, _, h => by simp [eqLits] at h
  | _ :: _, .lit _ :: _, [], _, h => by simp [eqLits] at h
  | _ :: _, .lit _ :: _, .sl _ _ :: _, _, h => by simp [eqLits] at h
  | _ :: _, .lit _ :: _, .agg _ :: _, _, h => by simp [eqLits] at h

theorem reps_lits_eq {w : World} {X : Nat → Prop} : ∀ {as vs : List Value}, reps w X (as.map .lit) vs → vs = as
  | [], vs, h => by simpa [reps] using h
  | a :: as, vs, h => by
    simp only [List.map_cons] at h
    unfold reps at h
    obtain ⟨u, us, rfl, _, h2, h3⟩ := h
    unfold rep at h2
    rw [h2, reps_lits_eq h3]

theorem flatK_eq {P : Program} {t : TypeId} {ks : List TK} (h : flatK P t = some ks) {as bs : List Value} {b : Bool} (he : eqLits ks (as.map .lit) (bs.map .lit) = some b) (w : World) :
    (Op.equal t (.agg as.toArray) (.agg bs.toArray)).run P w = .ok b w ∧ P.eqGuardType P.depth t = false := by
  unfold flatK at h
  split at h
  · rename_i hg
    split at h
    · rename_i fs hu
      refine ⟨?_, hg.1⟩
      have hfo : P.fieldsOf t = fs := by unfold Program.fieldsOf; rw [hu]
      show (Op.equalIn 10000 t _ _).run P w = _
      rw [run_equalIn_struct w 9999 t _ _ (by rw [hfo]; exact hu) hg.2, hfo]
      exact eqFields_flat 9998 w _ _ _ _ 0 as bs b h rfl rfl he
    · rename_i n e hu
      refine ⟨?_, hg.1⟩
      simp only [Option.map_eq_some_iff] at h
      obtain ⟨k, hk, rfl⟩ := h
      obtain ⟨ety, hty, hs1⟩ : ∃ ety, tyOf P e = some ety ∧ ety.size = 1 := by
        unfold leafK at hk
        split at hk
        · rename_i ety hty
          split at hk
          · rename_i hc; exact ⟨ety, hty, hc.2⟩
          · cases hk
        · cases hk
      obtain ⟨ti, _, hi, _⟩ := tyOf_spec hty
      have hc1 : P.cellsOf e = 1 := by
        have h1 := tyOf_size hty w
        rw [run_sizeOf w hi, hs1] at h1
        simpa using h1
      show (Op.equalIn 10000 t _ _).run P w = _
      rw [run_equalIn_array w 9999 _ _ hu hi, hc1, List.range_eq_range']
      exact eqItems_flat 9998 w _ _ hk n 0 as bs b rfl rfl he
    · cases h
  · cases h

theorem tyIs_sl0 {P : Program} {t : TypeId} {f : TK → Bool} (hf : ∀ k, f k = true → ∃ e, k = .slice e) (h : tyIs P t f = true) : ∃ e, P.underlying t = some (.slice e) := by
  unfold tyIs at h
  split at h
  · rename_i ty ht
    obtain ⟨e, he⟩ := hf _ h
    exact ⟨e, tyOf_slice ht he⟩
  · cases h
theorem run_eqIn_slice_nil {P : Program} (w : World) (d : Nat) (t e : TypeId) (a : Option Addr) (l c : Nat) (h : P.underlying t = some (.slice e)) : (Op.equalIn (d + 1) t (.slice a l c) (.slice none 0 0)).run P w = .ok a.isNone w := by
  cases a <;> simp [Op.equalIn, run_underlying h]
theorem run_eq_slice_nil {P : Program} (w : World) (t e : TypeId) (a : Option Addr) (l c : Nat) (h : P.underlying t = some (.slice e)) : (Op.equal t (.slice a l c) (.slice none 0 0)).run P w = .ok a.isNone w :=
  run_eqIn_slice_nil w 9999 t e a l c h
def TK.isSl0 : TK → Bool | .slice _ => true | _ => false
def evBinP (P : Program) (op : BinOp) (t : TypeId) (rows : Rows) (p q : PV) : Option (Prop × PV) :=
  match p, q with
  | .d (.lit (.bool a)), .d (.lit (.bool b)) => if tyIs P t TK.isBool then evEqn op (a == b) else none
  | .d (.lit (.pointer a)), .d (.lit (.pointer b)) => if tyIs P t TK.isPtr && (a.isNone || b.isNone) then evEqn op (a.isNone && b.isNone) else none
  | .d (.lit (.slice a _ _)), .d (.lit (.slice none 0 0)) => if tyIs P t TK.isSl0 then evEqn op a.isNone else none
  | .d (.lit x), .d (.lit y) => (evBin op x y).map fun r => (r.1, .d (.lit r.2))
  | .ptr i _, .d (.lit (.pointer none)) => if tyIs P t TK.isPtr && alive (rows i) then evEqn op false else none
  | .d (.sl sz el), .d (.lit (.slice none 0 0)) => if 0 < sz ∧ 0 < el.length ∧ tyIs P t TK.isSl0 = true then evEqn op false else none
  | .d (.agg xs), .d (.agg ys) => match flatK P t with
    | some ks => match eqLits ks xs ys with | some b => evEqn op b | none => none
    | none => none
  | _, _ => none

theorem run_eqn {P : Program} {op : BinOp} {t : TypeId} {u v : Value} {b : Bool} {c : Prop} {p : PV} {w : World} (ho : oc u = true) (hn : u ≠ .nilIface) (h : evEqn op b = some (c, p))
    (hb1 : binOp .eql t u v = (do pure (.bool (← Op.equal t u v)))) (hb2 : binOp .neq t u v = (do pure (.bool (!(← Op.equal t u v)))))
    (he : (Op.equal t u v).run P w = .ok b w) (x y : Operand) : ∃ z, p = .d (.lit z) ∧ (do eqGuard op t x y u v; binOp op t u v : Sem Value).run P w = .ok z w := by
  unfold evEqn at h
  split at h
  · simp only [Option.some.injEq, Prod.mk.injEq] at h
    obtain ⟨rfl, rfl⟩ := h
    refine ⟨_, rfl, ?_⟩
    simp only [Sem.run_bind, eqGuard_lit w ho hn, Result.andThen_ok, hb1, he, Sem.run_pure]
  · simp only [Option.some.injEq, Prod.mk.injEq] at h
    obtain ⟨rfl, rfl⟩ := h
    refine ⟨_, rfl, ?_⟩
    simp only [Sem.run_bind, eqGuard_lit w ho hn, Result.andThen_ok, hb2, he, Sem.run_pure]
  · cases h

theorem evEqn_c {op : BinOp} {b : Bool} {c : Prop} {p : PV} (h : evEqn op b = some (c, p)) : c = True := by
  unfold evEqn at h
  split at h <;> simp_all

theorem op_bin {P : Program} {o : Oper} {s : St} {op : BinOp} {t t' : TypeId} {x y : Operand} {c : Prop} {p : PV} (ho : o.op = .binOp op t x y t')
    (h : evBinP P op t s.rows (ev s.regs x) (ev s.regs y) = some (c, p)) : OpSound P o s (Eff.pureIf c p) := by
  unfold evBinP at h
  split at h
  · rename_i a b hx hy
    split at h
    · rename_i ht
      have hu := tyIs_bool ht
      refine sound_pure fun B β X w a' hr _ => ?_
      obtain ⟨z, rfl, hz⟩ := run_eqn (P := P) (t := t) (u := .bool a) (v := .bool b) (w := w) rfl (by simp) h rfl rfl (equal_bool hu a b w) x y
      refine ⟨z, ?_, by simp [repP, rep], trivial⟩
      simp only [execOp, ho, hr.lit hx, hr.lit hy]
      rw [Sem.run_bind, hz]; rfl
    · cases h
  · rename_i a b hx hy
    split at h
    · rename_i ht
      simp only [Bool.and_eq_true] at ht
      obtain ⟨e, hu⟩ := tyIs_ptr ht.1
      refine sound_pure fun B β X w a' hr _ => ?_
      obtain ⟨z, rfl, hz⟩ := run_eqn (P := P) (t := t) (u := .pointer a) (v := .pointer b) (w := w) rfl (by simp) h rfl rfl (equal_ptr hu a b ht.2 w) x y
      refine ⟨z, ?_, by simp [repP, rep], trivial⟩
      simp only [execOp, ho, hr.lit hx, hr.lit hy]
      rw [Sem.run_bind, hz]; rfl
    · cases h
  · rename_i ad l cp hx hy
    split at h
    · rename_i ht
      obtain ⟨e, hu⟩ := tyIs_sl0 (fun k hk => by cases k <;> simp [TK.isSl0] at hk; exact ⟨_, rfl⟩) ht
      refine sound_pure fun B β X w a' hr _ => ?_
      obtain ⟨z, rfl, hz⟩ := run_eqn (P := P) (t := t) (u := .slice ad l cp) (v := .slice none 0 0) (w := w) rfl (by simp) h rfl rfl (run_eq_slice_nil w t e ad l cp hu) x y
      refine ⟨z, ?_, by simp [repP, rep], trivial⟩
      simp only [execOp, ho, hr.lit hx, hr.lit hy]
      rw [Sem.run_bind, hz]; rfl
    · cases h
  · rename_i u v _ _ _ hx hy
    simp only [Option.map_eq_some_iff] at h
    obtain ⟨r, hr0, hr1⟩ := h
    simp only [Prod.mk.injEq] at hr1
    obtain ⟨rfl, rfl⟩ := hr1
    obtain ⟨o1, o2⟩ := evBin_oc hr0
    refine sound_lit fun B β X w a' hr hc => ?_
    simp only [execOp, ho, hr.lit hx, hr.lit hy, Sem.run_bind, eqGuard_lit w o1 o2, Result.andThen_ok, evBin_ok hr0 hc, Sem.run_pure]
  · rename_i i off hx hy
    split at h
    · rename_i ht
      simp only [Bool.and_eq_true] at ht
      obtain ⟨e, hu⟩ := tyIs_ptr ht.1
      refine sound_pure fun B β X w a' hr _ => ?_
      have hxx := (hr.ev x).1
      rw [hx] at hxx
      unfold repP at hxx
      obtain ⟨b, _, h2⟩ := hxx (fun e => by rw [e] at ht; simp [alive] at ht)
      obtain ⟨z, rfl, hz⟩ := run_eqn (P := P) (t := t) (u := .pointer (some ⟨b, off, none⟩)) (v := .pointer none) (w := w) rfl (by simp) h rfl rfl (equal_ptr hu _ none rfl w) x y
      refine ⟨z, ?_, by simp [repP, rep], trivial⟩
      simp only [execOp, ho, h2, hr.lit hy]
      rw [Sem.run_bind, hz]; rfl
    · cases h
  · rename_i sz el hx hy
    split at h
    · rename_i ht
      obtain ⟨e, hu⟩ := tyIs_sl0 (fun k hk => by cases k <;> simp [TK.isSl0] at hk; exact ⟨_, rfl⟩) ht.2.2
      refine sound_pure fun B β X w a' hr _ => ?_
      have hxx := (hr.ev x).1
      rw [hx] at hxx
      unfold repP rep at hxx
      obtain ⟨ad, cap, vs, h1, h2, h3, h4, h5⟩ := hxx
      have hlen := repss_length h4
      have hne : vs ≠ [] := by
        intro e; subst e
        have := Nat.mul_pos ht.2.1 ht.1
        simp at hlen; omega
      obtain ⟨b, off, rfl, _⟩ := h5 hne
      obtain ⟨z, rfl, hz⟩ := run_eqn (P := P) (t := t) (u := .slice (some ⟨b, off, none⟩) el.length cap) (v := .slice none 0 0) (w := w) rfl (by simp) h rfl rfl (run_eq_slice_nil w t e _ _ _ hu) x y
      refine ⟨z, ?_, by simp [repP, rep], trivial⟩
      simp only [execOp, ho, h1, hr.lit hy]
      rw [Sem.run_bind, hz]; rfl
    · cases h
  · rename_i xs ys hx hy
    split at h
    · rename_i ks hks
      split at h
      · rename_i b hb
        refine sound_pure fun B β X w a' hr _ => ?_
        obtain ⟨as, bs, rfl, rfl, o1, o2⟩ := eqLits_lits hb
        obtain ⟨q1, q2⟩ := flatK_eq hks hb w
        have hxx := (hr.ev x).1
        rw [hx] at hxx
        have hyy := (hr.ev y).1
        rw [hy] at hyy
        unfold repP rep at hxx hyy
        obtain ⟨vs, h1, h2⟩ := hxx
        obtain ⟨ws, h3, h4⟩ := hyy
        have e1 := reps_lits_eq h2
        have e2 := reps_lits_eq h4
        subst e1; subst e2
        unfold evEqn at h
        split at h
        · simp only [Option.some.injEq, Prod.mk.injEq] at h
          obtain ⟨rfl, rfl⟩ := h
          refine ⟨.bool b, ?_, by simp [repP, rep], trivial⟩
          simp only [execOp, ho, h1, h3, Sem.run_bind, run_eqGuard_agg w _ _ _ _ _ _ q2, Result.andThen_ok, binOp, q1, Sem.run_pure]
        · simp only [Option.some.injEq, Prod.mk.injEq] at h
          obtain ⟨rfl, rfl⟩ := h
          refine ⟨.bool (!b), ?_, by simp [repP, rep], trivial⟩
          simp only [execOp, ho, h1, h3, Sem.run_bind, run_eqGuard_agg w _ _ _ _ _ _ q2, Result.andThen_ok, binOp, q1, Sem.run_pure]
        · cases h
      · cases h
    · cases h
  · cases h

def evUn (op : UnOp) (x : Value) : Option Value :=
  match op, x with
  | .not, .bool b => some (.bool !b)
  | .neg, .int k n => some (.int k (k.wrap (0 - n)))
  | .xor, .int k n => some (.int k (evBits .xor k (if k.signed then -1 else k.max) n))
  | _, _ => none

theorem op_un {P : Program} {o : Oper} {s : St} {op : UnOp} {t : TypeId} {x : Operand} {u v : Value} (ho : o.op = .unOp op t x) (hx : ev s.regs x = .d (.lit u)) (h : evUn op u = some v) :
    OpSound P o s (Eff.pureIf True (.d (.lit v))) :=
  sound_lit fun B β X w a hr _ => by
    simp only [execOp, ho, hr.lit hx]
    unfold evUn at h
    split at h <;> first | (simp only [Option.some.injEq] at h; subst h; simp [Op.unary, Op.intArith, Op.intBits, evBits]) | cases h

/-- bytes that cells hold -/
def strOf : List (List DV) → Option (List UInt8)
  | [] => some []
  | [.lit (.int .u8 n)] :: el => match strOf el with | some l => some (UInt8.ofNat n.toNat :: l) | none => none
  | _ => none

theorem strOf_vs {w : World} {X : Nat → Prop} : ∀ {el : List (List DV)} {bs : List UInt8} {vs : List Value}, strOf el = some bs → repss w X 1 el vs →
    ∃ ns : List Int, vs = ns.map (Value.int .u8) ∧ bs = ns.map fun n => UInt8.ofNat n.toNat
  | [], bs, vs, h, hr => by
    simp only [strOf, Option.some.injEq] at h; subst h
    unfold repss at hr; subst hr
    exact ⟨[], rfl, rfl⟩
  | e :: el, bs, vs, h, hr => by
    unfold strOf at h
    split at h
    · simp_all
    · rename_i n el' heq
      simp only [List.cons.injEq] at heq
      obtain ⟨rfl, rfl⟩ := heq
      split at h
      · rename_i l hl
        simp only [Option.some.injEq] at h; subst h
        unfold repss at hr
        obtain ⟨us, ws, h1, h2, h3, h4⟩ := hr
        unfold reps at h3
        obtain ⟨u, us', g1, g2, g3, g4⟩ := h3
        unfold reps at g4
        unfold rep at g3
        subst g4; subst g1; subst g3; subst h1
        obtain ⟨ns, i1, i2⟩ := strOf_vs hl h4
        exact ⟨n :: ns, by simp [i1], by simp [i2]⟩
      · cases h
    · cases h

theorem run_bts {P : Program} {w : World} (a : Addr) (n c : Nat) (ns : List Int) (hn : ns.length = n) (h : ∀ j u, (ns.map (Value.int .u8))[j]? = some u → w.cell? (a.add j) = some u) :
    (Conv.bytesToString (.slice (some a) n c)).run P w = .ok (.string ⟨(ns.map fun x => UInt8.ofNat x.toNat).toArray⟩) w := by
  have hl := run_loadCells_list (P := P) w a (ns.map (Value.int .u8)) h
  rw [List.length_map, hn] at hl
  rw [run_bytesToString w a n c ns (by simpa using hl), foldl_push_bytes]
  simp [ByteArray.empty, ByteArray.emptyWithCapacity]
  rfl

end Go.AM

namespace Go.AM
open Go

/-- a slice's size of element and elements, to be read -/
def viewOf (rows : Rows) : PV → Option (Nat × List (List DV))
  | .d (.sl sz el) => some (sz, el)
  | .own i => match rows i with
    | .own sz el => some (sz, el)
    | .box cells => (match allD cells with
      | some ds => some (1, ds.map fun d => [d])
      | none => none)
    | _ => none
  | .win i off m => match rows i with
    | .own sz el => some (sz, (el.drop off).take m)
    | .box cells => (match allD ((cells.drop off).take m) with
      | some ds => if ds.length = m then some (1, ds.map fun d => [d]) else none
      | none => none)
    | _ => none
  | _ => none

theorem repss_one {w : World} {X : Nat → Prop} : ∀ {ds : List DV} {vs : List Value}, reps w X ds vs → repss w X 1 (ds.map fun d => [d]) vs
  | [], vs, h => by unfold reps at h; subst h; simp [repss]
  | d :: ds, vs, h => by
    unfold reps at h
    obtain ⟨u, us, rfl, h2, h3, h4⟩ := h
    simp only [List.map_cons]
    unfold repss
    exact ⟨[u], us, rfl, rfl, by unfold reps; exact ⟨u, [], rfl, h2, h3, by simp [reps]⟩, repss_one h4⟩

theorem repss_sub {w : World} {X : Nat → Prop} {sz off m : Nat} {el : List (List DV)} {vs : List Value} (h : repss w X sz el vs) :
    repss w X sz ((el.drop off).take m) ((vs.drop (off * sz)).take (m * sz)) := repss_take m (repss_drop off h)

theorem viewOf_ok {B : Base} {β : Nat → Loc} {X : Nat → Prop} {w : World} {rows : Rows} {nx : Nat} {p : PV} {v : Value} {sz : Nat} {el : List (List DV)} (hm : Mem B β X w rows nx)
    (h : repP rows β w X p v) (hv : viewOf rows p = some (sz, el)) :
    ∃ a cap vs, v = .slice a el.length cap ∧ el.length ≤ cap ∧ cap ≤ maxLen ∧ repss w X sz el vs ∧
      (vs ≠ [] → ∃ b off, a = some ⟨b, off, none⟩ ∧ ∀ j u, vs[j]? = some u → w.cell? ⟨b, off + j, none⟩ = some u) := by
  unfold viewOf at hv
  split at hv
  · simp only [Option.some.injEq, Prod.mk.injEq] at hv
    obtain ⟨rfl, rfl⟩ := hv
    unfold repP rep at h
    obtain ⟨a, cap, vs, h1, h2, h3, h4, h5⟩ := h
    exact ⟨a, cap, vs, h1, h2, h3, h4, fun hne => let ⟨b, off, g1, _, g3⟩ := h5 hne; ⟨b, off, g1, g3⟩⟩
  · rename_i i
    split at hv
    · rename_i sz' el' hi
      simp only [Option.some.injEq, Prod.mk.injEq] at hv
      obtain ⟨rfl, rfl⟩ := hv
      have hrow := hm.ok i
      rw [hi] at hrow
      obtain ⟨h1, h2, h3⟩ := hrow
      unfold repP at h
      have hv := h.1 sz' el' hi
      rcases h3 with ⟨h3, rfl⟩ | ⟨b, cs, e, fr, h3, h4, h5, h6, h7, h8, h9⟩
      · exact ⟨(β i).a, (β i).cap, [], hv, h1, h2, by simp [repss], fun hne => absurd rfl hne⟩
      · refine ⟨(β i).a, (β i).cap, _, hv, h1, h2, h9, fun hne => ⟨b, 0, h4, fun j u hu => ?_⟩⟩
        rw [cell_of_heap h6, Nat.zero_add]
        rw [List.getElem?_take] at hu
        split at hu
        · simpa using hu
        · cases hu
    · rename_i cells hi
      split at hv
      · rename_i ds hds
        simp only [Option.some.injEq, Prod.mk.injEq] at hv
        obtain ⟨rfl, rfl⟩ := hv
        have hrow := hm.ok i
        rw [hi] at hrow
        obtain ⟨b, cs, e, fr, h1, h2, h3, h4, h5, h6, h7, h8⟩ := hrow
        unfold repP at h
        obtain ⟨g2, g3⟩ := h.2 cells hi
        have hcl : cells.length = ds.length := by rw [allD_eq hds]; simp
        have r := h5
        rw [allD_eq hds] at r
        have r' := repPs_d r fun u hu => h6 u (by rw [allD_eq hds]; exact hu)
        rw [List.length_map, ← hcl]
        refine ⟨_, _, _, g3, g2, h8, repss_one r', fun _ => ⟨b, 0, h1, fun j u hu => ?_⟩⟩
        rw [cell_of_heap h3, Nat.zero_add]
        rw [List.getElem?_take] at hu
        split at hu
        · simpa using hu
        · cases hu
      · cases hv
    · cases hv
  · rename_i i off m
    split at hv
    · rename_i sz' el' hi
      simp only [Option.some.injEq, Prod.mk.injEq] at hv
      obtain ⟨rfl, rfl⟩ := hv
      have hrow := hm.ok i
      rw [hi] at hrow
      obtain ⟨h1, h2, h3⟩ := hrow
      unfold repP at h
      obtain ⟨hle, hv⟩ := h.1 sz' el' hi
      have hlen : ((el'.drop off).take m).length = m := by simp; omega
      rw [hlen]
      rcases h3 with ⟨h3, rfl⟩ | ⟨b, cs, e, fr, h3, h4, h5, h6, h7, h8, h9⟩
      · simp only [List.length_nil, Nat.le_zero_eq, Nat.add_eq_zero_iff] at hle
        obtain ⟨rfl, rfl⟩ := hle
        exact ⟨_, _, [], hv, by omega, by omega, by simp [repss], fun hne => absurd rfl hne⟩
      · refine ⟨_, _, _, hv, by omega, by omega, repss_sub h9, fun hne => ?_⟩
        have hcap : ¬ (β i).cap = off := by
          intro e
          apply hne
          have : m = 0 := by omega
          subst this; simp
        rw [if_neg hcap, h4]
        refine ⟨b, off * sz', by simp [Addr.add_lit], fun j u hu => ?_⟩
        rw [cell_of_heap h6]
        rw [List.getElem?_take] at hu
        split at hu
        · rw [List.getElem?_drop, List.getElem?_take] at hu
          split at hu
          · simpa using hu
          · cases hu
        · cases hu
    · rename_i cells hi
      split at hv
      · rename_i ds hds
        split at hv
        · rename_i hdl
          simp only [Option.some.injEq, Prod.mk.injEq] at hv
          obtain ⟨rfl, rfl⟩ := hv
          have hrow := hm.ok i
          rw [hi] at hrow
          obtain ⟨b, cs, e, fr, h1, h2, h3, h4, h5, h6, h7, h8⟩ := hrow
          unfold repP at h
          obtain ⟨b', cap, g1, g2, g3, g4⟩ := h.2 cells hi
          rw [h1] at g1
          obtain rfl : b = b' := by simpa using g1
          have r := repPs_take m (repPs_drop off h5)
          rw [allD_eq hds] at r
          have r' := repPs_d r fun u hu => h6 u (List.mem_of_mem_drop (List.mem_of_mem_take hu))
          rw [List.length_map, hdl]
          refine ⟨_, cap, _, g2, g3, g4, repss_one r', fun _ => ⟨b, off, rfl, fun j u hu => ?_⟩⟩
          rw [cell_of_heap h3]
          rw [List.getElem?_take] at hu
          split at hu
          · rw [List.getElem?_drop, List.getElem?_take] at hu
            split at hu
            · simpa using hu
            · cases hu
          · cases hu
        · cases hv
      · cases hv
    · cases hv
  · cases hv

/-! ## len -/
def TK.isSl : TK → Bool | .slice _ => true | _ => false
def TK.isStr : TK → Bool | .string => true | _ => false
def TK.isMap : TK → Bool | .map _ _ => true | _ => false
/-- a slice of a box's cells -/
def bxLen (P : Program) (rows : Rows) (t : TypeId) (p : PV) : Option Int :=
  match p with
  | .win i _ m => match rows i with
    | .box _ => if tyIs P t TK.isSl then some m else none
    | _ => none
  | .own i => match rows i with
    | .box cells => if tyIs P t TK.isSl then some cells.length else none
    | _ => none
  | .mp i => match rows i with
    | .map _ _ ents => if tyIs P t TK.isMap then some ents.length else none
    | _ => none
  | _ => none
def evLen (P : Program) (rows : Rows) (t : TypeId) (p : PV) : Option Int :=
  match p with
  | .d (.lit (.string s)) => if tyIs P t TK.isStr then some s.size else none
  | .d (.lit (.slice _ n _)) => if tyIs P t TK.isSl then some n else none
  | p => match viewOf rows p with
    | some (_, el) => if tyIs P t TK.isSl then some el.length else none
    | none => bxLen P rows t p

theorem tyIs_slice {P : Program} {t : TypeId} (h : tyIs P t TK.isSl = true) : ∃ e, P.underlying t = some (.slice e) := by
  unfold tyIs at h
  split at h
  · rename_i ty ht
    cases hk : ty.k <;> rw [hk] at h <;> simp [TK.isSl] at h
    exact ⟨_, tyOf_slice ht hk⟩
  · cases h

theorem tyIs_map {P : Program} {t : TypeId} (h : tyIs P t TK.isMap = true) : ∃ k e, P.underlying t = some (.map k e) := by
  unfold tyIs at h
  split at h
  · rename_i ty ht
    cases hk : ty.k <;> rw [hk] at h <;> simp [TK.isMap] at h
    exact ⟨_, _, tyOf_map ht hk⟩
  · cases h

theorem repEs_length {rows : Rows} {β : Nat → Loc} {w : World} {X : Nat → Prop} : ∀ {ents : List (MKey × Nat × PV)} {es : List MapEntry}, repEs rows β w X ents es → es.length = ents.length
  | [], es, h => by rw [show es = [] from h]; rfl
  | (k, n, p) :: l, es, h => by
    obtain ⟨e, es', h1, _, _, _, h5⟩ := h
    rw [h1, List.length_cons, List.length_cons, repEs_length h5]

theorem tyIs_string {P : Program} {t : TypeId} (h : tyIs P t TK.isStr = true) : P.underlying t = some .string := by
  unfold tyIs at h
  split at h
  · rename_i ty ht
    refine tyOf_string ht ?_
    cases hk : ty.k <;> rw [hk] at h <;> simp [TK.isStr] at h
  · cases h

theorem op_len {P : Program} {o : Oper} {s : St} {t : TypeId} {x : Operand} {n : Int} (ho : o.op = .call { callee := .builtin .len, args := #[x], argTypes := #[t] })
    (h : evLen P s.rows t (ev s.regs x) = some n) : OpSound P o s (Eff.pureIf True (.d (.lit (.int .i64 n)))) := by
  have key : ∀ {w : World} {v : Value} {a : Act}, a.eval x = v → (Builtin.len_ #[t] o.type #[v]).run P w = .ok (.int .i64 n) w → (execOp a.eval o).run P w = .ok (.value (.int .i64 n)) w := by
    intro w v a h1 h2
    simp only [execOp, ho, resolve, invoke, builtin, Sem.run_bind, Sem.run_pure, Result.andThen_ok, List.map_toArray, List.map_cons, List.map_nil, h1, h2]
  refine sound_lit fun B β X w a hr _ => ?_
  unfold evLen at h
  split at h
  · rename_i s' hx
    split at h
    · rename_i ht
      simp only [Option.some.injEq] at h; subst h
      exact key (hr.lit hx) (by simp [Builtin.len_, run_underlying (tyIs_string ht), goInt])
    · cases h
  · rename_i n' c hx
    split at h
    · rename_i ht
      obtain ⟨e, hu⟩ := tyIs_slice ht
      simp only [Option.some.injEq] at h; subst h
      exact key (hr.lit hx) (by simp [Builtin.len_, run_underlying hu, goInt])
    · cases h
  · split at h
    · rename_i sz el hv
      split at h
      · rename_i ht
        obtain ⟨e, hu⟩ := tyIs_slice ht
        simp only [Option.some.injEq] at h; subst h
        obtain ⟨a', cap, vs, h1, _⟩ := viewOf_ok hr.mem (hr.ev x).1 hv
        exact key h1 (by simp [Builtin.len_, run_underlying hu, goInt])
      · cases h
    · unfold bxLen at h
      split at h
      · rename_i i off m hx
        split at h
        · rename_i cells hi
          split at h
          · rename_i ht
            obtain ⟨e, hu⟩ := tyIs_slice ht
            simp only [Option.some.injEq] at h; subst h
            have hxx := (hr.ev x).1
            rw [hx] at hxx
            unfold repP at hxx
            obtain ⟨b, cap, _, hv, _⟩ := hxx.2 _ hi
            exact key hv (by simp [Builtin.len_, run_underlying hu, goInt])
          · cases h
        · cases h
      · rename_i i hx
        split at h
        · rename_i cells hi
          split at h
          · rename_i ht
            obtain ⟨e, hu⟩ := tyIs_slice ht
            simp only [Option.some.injEq] at h; subst h
            have hxx := (hr.ev x).1
            rw [hx] at hxx
            unfold repP at hxx
            obtain ⟨_, hv⟩ := hxx.2 _ hi
            exact key hv (by simp [Builtin.len_, run_underlying hu, goInt])
          · cases h
        · cases h
      · rename_i i hx
        split at h
        · rename_i kd clock ents hi
          split at h
          · rename_i ht
            obtain ⟨kt, e, hu⟩ := tyIs_map ht
            simp only [Option.some.injEq] at h; subst h
            have hxx := (hr.ev x).1
            rw [hx] at hxx
            unfold repP at hxx
            obtain ⟨b, hb, hv⟩ := hxx (by rw [hi]; simp)
            have hrow := hr.mem.ok i
            rw [hi] at hrow
            obtain ⟨b', es, g1, g2, g3, g4, g5⟩ := hrow
            rw [hb] at g1
            obtain rfl : b = b' := by simpa using g1
            have hlen := repEs_length g4
            have hg : (getObj b).run P w = .ok (.map es clock) w := by simp [getObj, Sem.run, g3]
            exact key hv (by simp [Builtin.len_, run_underlying hu, hg, goInt, ← hlen])
          · cases h
        · cases h
      · cases h

/-! ## min, max -/
theorem op_min {P : Program} {o : Oper} {s : St} {ts : Array TypeId} {x y : Operand} {k k' : IntKind} {m n : Int} (ho : o.op = .call { callee := .builtin .min, args := #[x, y], argTypes := ts })
    (hx : ev s.regs x = .d (.lit (.int k m))) (hy : ev s.regs y = .d (.lit (.int k' n))) : OpSound P o s (Eff.pureIf True (.d (.lit (.int k (if n < m then n else m))))) :=
  sound_lit fun B β X w a hr _ => by
    simp [execOp, ho, resolve, invoke, builtin, hr.lit hx, hr.lit hy, Builtin.min_, Builtin.min2]

theorem op_max {P : Program} {o : Oper} {s : St} {ts : Array TypeId} {x y : Operand} {k k' : IntKind} {m n : Int} (ho : o.op = .call { callee := .builtin .max, args := #[x, y], argTypes := ts })
    (hx : ev s.regs x = .d (.lit (.int k m))) (hy : ev s.regs y = .d (.lit (.int k' n))) : OpSound P o s (Eff.pureIf True (.d (.lit (.int k (if m < n then n else m))))) :=
  sound_lit fun B β X w a hr _ => by
    simp [execOp, ho, resolve, invoke, builtin, hr.lit hx, hr.lit hy, Builtin.max_, Builtin.max2]

/-! ## load, store -/
theorem op_load {P : Program} {o : Oper} {s : St} {t : TypeId} {x : Operand} {q : PV} (ho : o.op = .load t x) (h : evLoad P s.rows t (ev s.regs x) = some q) : OpSound P o s (Eff.pureIf True q) :=
  sound_pure fun B β X w a hr _ => by
    obtain ⟨u, h1, h2, h3⟩ := evLoad_ok hr.mem (hr.ev x).1 h
    exact ⟨u, by simp only [execOp, ho, Sem.run_bind, h1, Result.andThen_ok, Sem.run_pure], h2, h3⟩

def effSet (i : Nat) (r : Row) : Eff := { ok := True, val := .any, upds := [(i, r)], nn := 0 }

theorem op_store {P : Program} {o : Oper} {s : St} {t : TypeId} {x y : Operand} {i : Nat} {r : Row} (ho : o.op = .store t x y) (h : evStore P s.rows t (ev s.regs x) (ev s.regs y) = some (i, r)) :
    OpSound P o s (effSet i r) := by
  intro B β X w a hr _
  obtain ⟨w', h1, h2, h3, h4⟩ := evStore_ok hr.mem (hr.ev x).1 (hr.ev y).1 (hr.ev y).2 h
  refine ⟨undef, w', β, X, .inr ⟨by simp only [execOp, ho, Sem.run_bind, h1, Result.andThen_ok, Sem.run_pure], rfl⟩, ?_, by simp [effSet, repP], trivial⟩
  exact hr.of_mem h2 (Nat.le_refl _) fun p v hp hpv => repP_mono h3 h4 p v hp hpv

/-! ## addresses -/
def evNil (rows : Rows) (p : PV) : Option PV :=
  match p with
  | .ptr i off => if alive (rows i) then some (.ptr i off) else none
  | .iptr cs => some (.iptr cs)
  | .eptr i k c => match rows i with | .own _ _ => some (.eptr i k c) | _ => none
  | _ => none

theorem op_nil {P : Program} {o : Oper} {s : St} {x : Operand} {q : PV} (ho : o.op = .nilCheck x) (h : evNil s.rows (ev s.regs x) = some q) : OpSound P o s (Eff.pureIf True q) :=
  sound_pure fun B β X w a hr _ => by
    have hx := hr.ev x
    refine ⟨a.eval x, ?_, ?_⟩
    · have : ∃ ad, a.eval x = .pointer (some ad) := by
        unfold evNil at h
        split at h
        · rename_i i off he
          split at h
          · rename_i hal
            rw [he] at hx
            obtain ⟨hx1, _⟩ := hx
            unfold repP at hx1
            obtain ⟨b, _, h2⟩ := hx1 (fun e => by rw [e] at hal; simp [alive] at hal)
            exact ⟨_, h2⟩
          · cases h
        · rename_i cs he
          rw [he] at hx
          obtain ⟨hx1, _⟩ := hx
          unfold repP at hx1
          obtain ⟨b, off, vs, h1, _⟩ := hx1
          exact ⟨_, h1⟩
        · rename_i i k c he
          split at h
          · rename_i sz el hi
            rw [he] at hx
            obtain ⟨hx1, _⟩ := hx
            unfold repP at hx1
            obtain ⟨_, b, _, h2⟩ := hx1 sz el hi
            exact ⟨_, h2⟩
          · cases h
        · cases h
      obtain ⟨ad, had⟩ := this
      simp [execOp, ho, had]
    · have : q = ev s.regs x := by
        unfold evNil at h
        split at h
        · rename_i he
          split at h
          · simp only [Option.some.injEq] at h; rw [he]; exact h.symm
          · cases h
        · rename_i he; simp only [Option.some.injEq] at h; rw [he]; exact h.symm
        · rename_i he
          split at h
          · simp only [Option.some.injEq] at h; rw [he]; exact h.symm
          · cases h
        · cases h
      rw [this]; exact hx

/-- an address further on -/
def evOff (p : PV) (n : Nat) : Option PV :=
  match p with
  | .ptr i off => some (.ptr i (off + n))
  | .eptr i k c => some (.eptr i k (c + n))
  | .iptr cs => if n < cs.length then some (.iptr (cs.drop n)) else none
  | _ => none

def aliveP (rows : Rows) (p : PV) : Bool :=
  match p with
  | .ptr i _ => alive (rows i)
  | .eptr i _ _ => (match rows i with | .own _ _ => true | _ => false)
  | .iptr _ => true
  | _ => false

theorem evOff_ok {rows : Rows} {β : Nat → Loc} {w : World} {X : Nat → Prop} {p q : PV} {n : Nat} {v : Value} (h : repP rows β w X p v) (hal : aliveP rows p = true) (he : evOff p n = some q) :
    ∃ b off, v = .pointer (some ⟨b, off, none⟩) ∧ repP rows β w X q (.pointer (some ⟨b, off + n, none⟩)) := by
  unfold evOff at he
  split at he
  · rename_i i off
    simp only [Option.some.injEq] at he; subst he
    unfold repP at h
    obtain ⟨b, h1, h2⟩ := h (fun e => by simp [aliveP, e, alive] at hal)
    exact ⟨b, off, h2, by unfold repP; exact fun _ => ⟨b, h1, rfl⟩⟩
  · rename_i i k c
    simp only [Option.some.injEq] at he; subst he
    simp only [aliveP] at hal
    split at hal
    · rename_i sz el hi
      unfold repP at h
      obtain ⟨h0, b, h1, h2⟩ := h sz el hi
      refine ⟨b, _, h2, ?_⟩
      unfold repP
      intro sz' el' hi'
      rw [hi] at hi'; cases hi'
      exact ⟨h0, b, h1, by rw [Nat.add_assoc]⟩
    · cases hal
  · rename_i cs
    split at he
    · rename_i hn
      simp only [Option.some.injEq] at he; subst he
      unfold repP at h
      obtain ⟨b, off, vs, h1, h2, h3, h4, h5⟩ := h
      refine ⟨b, off, h1, ?_⟩
      unfold repP
      have hl := reps_length h2
      refine ⟨b, off + n, vs.drop n, rfl, reps_drop n h2, fun e => ?_, h4, fun j u hu => ?_⟩
      · have := congrArg List.length e
        simp at this; omega
      · rw [List.getElem?_drop] at hu
        rw [Nat.add_assoc]; exact h5 _ u hu
    · cases he
  · cases he

theorem Sc_evOff {S : Nat → Prop} {p q : PV} {n : Nat} (h : Sc S p) (he : evOff p n = some q) : Sc S q := by
  unfold evOff at he
  split at he
  · simp only [Option.some.injEq] at he; subst he; exact h
  · simp only [Option.some.injEq] at he; subst he; exact h
  · split at he
    · simp only [Option.some.injEq] at he; subst he; trivial
    · cases he
  · cases he

def evField (P : Program) (rows : Rows) (t : TypeId) (p : PV) (f : Nat) : Option PV :=
  match tyOf P t with
  | some ty => match ty.k with
    | .struct fs => match fs[f]? with
      | some (off, ft) => match tyOf P ft with
        | some fty => if 0 < fty.size && aliveP rows p then evOff p off else none
        | none => none
      | none => none
    | _ => none
  | none => none

theorem op_fieldAddr {P : Program} {o : Oper} {s : St} {t : TypeId} {x : Operand} {f : Nat} {q : PV} (ho : o.op = .fieldAddr t x f) (h : evField P s.rows t (ev s.regs x) f = some q) :
    OpSound P o s (Eff.pureIf True q) := by
  unfold evField at h
  split at h
  · rename_i ty ht
    split at h
    · rename_i fs hk
      split at h
      · rename_i off ft hf
        split at h
        · rename_i fty hft
          split at h
          · rename_i hc
            simp only [Bool.and_eq_true, decide_eq_true_eq] at hc
            obtain ⟨gs, hu, hfs⟩ := tyOf_struct ht hk
            refine sound_pure fun B β X w a hr _ => ?_
            obtain ⟨b, o', h1, h2⟩ := evOff_ok (hr.ev x).1 hc.2 h
            refine ⟨_, ?_, h2, Sc_evOff (hr.ev x).2 h⟩
            rw [hfs, List.getElem?_map, Option.map_eq_some_iff] at hf
            obtain ⟨g, hg, hg'⟩ := hf
            simp only [Prod.mk.injEq] at hg'
            obtain ⟨rfl, rfl⟩ := hg'
            have hg2 : gs[f]? = some g := by simpa using hg
            have hsz : ¬ fty.size = 0 := by omega
            simp only [execOp, ho, h1, Instr.fieldAt, Sem.run_bind, run_underlying hu, Result.andThen_ok, hg2, Instr.sureAddr, Sem.run_pure, fieldPlace, tyOf_size hft, hsz, if_false, Addr.add_lit]
          · cases h
        · cases h
      · cases h
    · cases h
  · cases h
end Go.AM

namespace Go.AM
open Go

/-! ## index -/
def evIdx (P : Program) (rows : Rows) (t : TypeId) (p : PV) (n : Int) : Option (Prop × PV) :=
  match tyOf P t with
  | some ty => match ty.k with
    | .slice e => match tyOf P e with
      | some ety => match p with
        | .d (.sl sz el) => if sz = ety.size then match el[n.toNat]? with
            | some (c :: cs) => some (0 ≤ n, .iptr (c :: cs))
            | _ => none
          else none
        | .own i => match rows i with
          | .own sz el => if sz = ety.size then some (0 ≤ n ∧ n < el.length, .eptr i n.toNat 0) else none
          | .box cells => if 1 = ety.size then some (0 ≤ n ∧ n < cells.length, .ptr i n.toNat) else none
          | _ => none
        | .win i off m => match rows i with
          | .own sz _ => if sz = ety.size then some (0 ≤ n ∧ n < m, .eptr i (off + n.toNat) 0) else none
          | .box _ => if 1 = ety.size then some (0 ≤ n ∧ n < m, .ptr i (off + n.toNat)) else none
          | _ => none
        | _ => none
      | none => none
    | .array len e => match tyOf P e with
      | some ety => match p with
        | .ptr i off => if alive (rows i) then some (0 ≤ n ∧ n < len, .ptr i (off + n.toNat * ety.size)) else none
        | .iptr cs => if n.toNat * ety.size < cs.length then some (0 ≤ n ∧ n < len, .iptr (cs.drop (n.toNat * ety.size))) else none
        | _ => none
      | none => none
    | _ => none
  | none => none

theorem run_indexAt_slice {P : Program} {w : World} {t e : TypeId} {ety : Ty} (hu : P.underlying t = some (.slice e)) (he : tyOf P e = some ety) (a : Addr) (len cap : Nat) (k : IntKind) (n : Int) (h0 : 0 ≤ n) (h1 : n < len) :
    (Instr.indexAt t (.slice (some a) len cap) (.int k n)).run P w = .ok (.pointer (some (a.add (n.toNat * ety.size)))) w := by
  simp [Instr.indexAt, asIntOf, run_underlying hu, h0, h1, tyOf_size he]

theorem run_indexAt_array {P : Program} {w : World} {t e : TypeId} {len : Nat} {ety : Ty} (hu : P.underlying t = some (.array len e)) (he : tyOf P e = some ety) (a : Addr) (k : IntKind) (n : Int) (h0 : 0 ≤ n) (h1 : n < len) :
    (Instr.indexAt t (.pointer (some a)) (.int k n)).run P w = .ok (.pointer (some (a.add (n.toNat * ety.size)))) w := by
  simp [Instr.indexAt, Instr.sureAddr, asIntOf, run_underlying hu, h0, h1, tyOf_size he]

set_option maxHeartbeats 1000000 in
theorem op_indexAddr {P : Program} {o : Oper} {s : St} {t : TypeId} {x y : Operand} {k : IntKind} {n : Int} {c : Prop} {q : PV} (ho : o.op = .indexAddr t x y) (hy : ev s.regs y = .d (.lit (.int k n)))
    (h : evIdx P s.rows t (ev s.regs x) n = some (c, q)) : OpSound P o s (Eff.pureIf c q) := by
  unfold evIdx at h
  split at h
  · rename_i ty ht
    split at h
    · rename_i e hk
      have hu := tyOf_slice ht hk
      split at h
      · rename_i ety he
        split at h
        · rename_i sz el hx
          split at h
          · rename_i hsz
            subst hsz
            split at h
            · rename_i d ds hd
              simp only [Option.some.injEq, Prod.mk.injEq] at h
              obtain ⟨rfl, rfl⟩ := h
              refine sound_pure fun B β X w a hr hc => ?_
              have hxx := (hr.ev x).1
              rw [hx] at hxx
              unfold repP rep at hxx
              obtain ⟨ad, cap, vs, h1, h2, h3, h4, h5⟩ := hxx
              obtain ⟨g1, g2, g3⟩ := repss_get h4 n.toNat _ hd
              have hlen : n.toNat < el.length := (List.getElem?_eq_some_iff.1 hd).1
              simp only [List.length_cons] at g1
              have hne : vs ≠ [] := by intro e; subst e; simp at g3; omega
              obtain ⟨b, off, i1, i2, i3⟩ := h5 hne
              refine ⟨.pointer (some ⟨b, off + n.toNat * ety.size, none⟩), ?_, ?_, trivial⟩
              · simp only [execOp, ho, hr.lit hy, h1, i1, Sem.run_bind, run_indexAt_slice hu he _ el.length cap k n hc (by omega), Result.andThen_ok, Sem.run_pure, Addr.add_lit]
              · unfold repP
                have gl := reps_length g2
                refine ⟨b, _, _, rfl, g2, fun e => ?_, i2, fun j u hu' => ?_⟩
                · rw [e] at gl; simp at gl
                · rw [List.getElem?_take] at hu'
                  split at hu'
                  · rw [List.getElem?_drop] at hu'
                    rw [Nat.add_assoc]; exact i3 _ u hu'
                  · cases hu'
            · cases h
          · cases h
        · rename_i i hx
          split at h
          · rename_i sz el hi
            split at h
            · rename_i hsz
              subst hsz
              simp only [Option.some.injEq, Prod.mk.injEq] at h
              obtain ⟨rfl, rfl⟩ := h
              refine sound_pure fun B β X w a hr hc => ?_
              have hxx := hr.ev x
              rw [hx] at hxx
              obtain ⟨hx1, hx2⟩ := hxx
              unfold repP at hx1
              have hv := hx1.1 _ _ hi
              have hrow := hr.mem.ok i
              rw [hi] at hrow
              obtain ⟨r1, r2, r3⟩ := hrow
              rcases r3 with ⟨_, rfl⟩ | ⟨b, cs, ety', fr, r3, r4, r5, r6, r7, r8, r9⟩
              · simp at hc; omega
              · refine ⟨.pointer (some ⟨b, n.toNat * ety.size, none⟩), ?_, ?_, hx2⟩
                · simp only [execOp, ho, hr.lit hy, hv, r4, Sem.run_bind, run_indexAt_slice hu he _ _ _ k n hc.1 hc.2, Result.andThen_ok, Sem.run_pure, Addr.add_lit, Nat.zero_add]
                · unfold repP
                  intro sz' el' hi'
                  rw [hi] at hi'; cases hi'
                  exact ⟨by omega, b, r4, rfl⟩
            · cases h
          · rename_i cells hi
            split at h
            · rename_i hsz
              simp only [Option.some.injEq, Prod.mk.injEq] at h
              obtain ⟨rfl, rfl⟩ := h
              refine sound_pure fun B β X w a hr hc => ?_
              have hxx := hr.ev x
              rw [hx] at hxx
              obtain ⟨hx1, hx2⟩ := hxx
              unfold repP at hx1
              obtain ⟨_, hv⟩ := hx1.2 _ hi
              have hrow := hr.mem.ok i
              rw [hi] at hrow
              obtain ⟨b, cs, e', fr, hb, _⟩ := hrow
              rw [hb] at hv
              refine ⟨.pointer (some ⟨b, n.toNat, none⟩), ?_, ?_, hx2⟩
              · simp only [execOp, ho, hr.lit hy, hv, Sem.run_bind, run_indexAt_slice hu he _ _ _ k n hc.1 hc.2, Result.andThen_ok, Sem.run_pure, Addr.add_lit, ← hsz, Nat.mul_one, Nat.zero_add]
              · unfold repP
                exact fun _ => ⟨b, hb, rfl⟩
            · cases h
          · cases h
        · rename_i i off m hx
          split at h
          · rename_i sz el hi
            split at h
            · rename_i hsz
              subst hsz
              simp only [Option.some.injEq, Prod.mk.injEq] at h
              obtain ⟨rfl, rfl⟩ := h
              refine sound_pure fun B β X w a hr hc => ?_
              have hxx := hr.ev x
              rw [hx] at hxx
              obtain ⟨hx1, hx2⟩ := hxx
              unfold repP at hx1
              obtain ⟨hle, hv⟩ := hx1.1 _ _ hi
              have hrow := hr.mem.ok i
              rw [hi] at hrow
              obtain ⟨r1, r2, r3⟩ := hrow
              rcases r3 with ⟨_, rfl⟩ | ⟨b, cs, ety', fr, r3, r4, r5, r6, r7, r8, r9⟩
              · simp at hle; omega
              · have hcap : ¬ (β i).cap = off := by omega
                rw [if_neg hcap, r4] at hv
                simp only [Option.map_some, Addr.add_lit, Nat.zero_add] at hv
                refine ⟨.pointer (some ⟨b, off * ety.size + n.toNat * ety.size, none⟩), ?_, ?_, hx2⟩
                · simp only [execOp, ho, hr.lit hy, hv, Sem.run_bind, run_indexAt_slice hu he _ _ _ k n hc.1 hc.2, Result.andThen_ok, Sem.run_pure, Addr.add_lit]
                · unfold repP
                  intro sz' el' hi'
                  rw [hi] at hi'; cases hi'
                  exact ⟨by omega, b, r4, by rw [Nat.add_mul, Nat.add_zero]⟩
            · cases h
          · rename_i cells hi
            split at h
            · rename_i hsz
              simp only [Option.some.injEq, Prod.mk.injEq] at h
              obtain ⟨rfl, rfl⟩ := h
              refine sound_pure fun B β X w a hr hc => ?_
              have hxx := hr.ev x
              rw [hx] at hxx
              obtain ⟨hx1, hx2⟩ := hxx
              unfold repP at hx1
              obtain ⟨b, cap, hb, hv, _⟩ := hx1.2 _ hi
              refine ⟨.pointer (some ⟨b, off + n.toNat, none⟩), ?_, ?_, hx2⟩
              · simp only [execOp, ho, hr.lit hy, hv, Sem.run_bind, run_indexAt_slice hu he _ _ _ k n hc.1 hc.2, Result.andThen_ok, Sem.run_pure, Addr.add_lit, ← hsz, Nat.mul_one]
              · unfold repP
                exact fun _ => ⟨b, hb, rfl⟩
            · cases h
          · cases h
        · cases h
      · cases h
    · rename_i len e hk
      have hu := tyOf_array ht hk
      split at h
      · rename_i ety he
        split at h
        · rename_i i off hx
          split at h
          · rename_i hal
            simp only [Option.some.injEq, Prod.mk.injEq] at h
            obtain ⟨rfl, rfl⟩ := h
            refine sound_pure fun B β X w a hr hc => ?_
            have hxx := hr.ev x
            rw [hx] at hxx
            obtain ⟨hx1, hx2⟩ := hxx
            obtain ⟨b, o', h1, h2⟩ := evOff_ok (n := n.toNat * ety.size) hx1 (by simpa [aliveP] using hal) rfl
            refine ⟨_, ?_, h2, hx2⟩
            simp only [execOp, ho, hr.lit hy, h1, Sem.run_bind, run_indexAt_array hu he _ k n hc.1 hc.2, Result.andThen_ok, Sem.run_pure, Addr.add_lit]
          · cases h
        · rename_i cs hx
          split at h
          · rename_i hlt
            simp only [Option.some.injEq, Prod.mk.injEq] at h
            obtain ⟨rfl, rfl⟩ := h
            refine sound_pure fun B β X w a hr hc => ?_
            have hxx := hr.ev x
            rw [hx] at hxx
            obtain ⟨hx1, hx2⟩ := hxx
            obtain ⟨b, o', h1, h2⟩ := evOff_ok (n := n.toNat * ety.size) (q := .iptr (cs.drop (n.toNat * ety.size))) hx1 rfl (by simp [evOff, hlt])
            refine ⟨_, ?_, h2, trivial⟩
            simp only [execOp, ho, hr.lit hy, h1, Sem.run_bind, run_indexAt_array hu he _ k n hc.1 hc.2, Result.andThen_ok, Sem.run_pure, Addr.add_lit]
          · cases h
        · cases h
      · cases h
    · cases h
  · cases h

theorem op_index {P : Program} {o : Oper} {s : St} {t : TypeId} {x y : Operand} {k : IntKind} {n : Int} {str : ByteArray} (ho : o.op = .index t x y) (hx : ev s.regs x = .d (.lit (.string str)))
    (hy : ev s.regs y = .d (.lit (.int k n))) (ht : tyIs P t TK.isStr = true) : OpSound P o s (Eff.pureIf (0 ≤ n ∧ n < str.size) (.d (.lit (.int .u8 (str.data.toList.getD n.toNat 0).toNat)))) :=
  sound_lit fun B β X w a hr hc => by
    have hlt : n.toNat < str.size := by omega
    have hlt' : n.toNat < str.data.toList.length := by
      have : str.data.toList.length = str.size := Array.length_toList
      omega
    have hg : str[n.toNat]? = some (str.data.toList.getD n.toNat 0) := by
      rw [getElem?_pos str n.toNat hlt, List.getD, List.getElem?_eq_getElem hlt']
      rfl
    simp only [execOp, ho, hr.lit hx, hr.lit hy, Instr.index, asIntOf, Sem.run_bind, Sem.run_pure, Result.andThen_ok, run_underlying (tyIs_string ht), hc.1, if_true, hg]

/-! ## slice -/
def evSl (P : Program) (rows : Rows) (t : TypeId) (p : PV) (lo hi : Option Int) : Option (Prop × PV) :=
  match p with
  | .d (.lit (.string s)) => if tyIs P t TK.isStr then
      some (0 ≤ lo.getD 0 ∧ lo.getD 0 ≤ hi.getD s.size ∧ hi.getD s.size ≤ s.size, .d (.lit (.string (s.extract (lo.getD 0).toNat (hi.getD s.size).toNat)))) else none
  | .d (.lit (.slice none 0 0)) => match tyOf P t with
    | some ty => match ty.k with
      | .slice e => match tyOf P e with
        | some _ => some (0 ≤ lo.getD 0 ∧ lo.getD 0 ≤ hi.getD 0 ∧ hi.getD 0 ≤ 0, .d (.lit (.slice none 0 0)))
        | none => none
      | _ => none
    | none => none
  | .d (.sl sz el) => match tyOf P t with
    | some ty => match ty.k with
      | .slice e => match tyOf P e with
        | some ety => if sz = ety.size then
            some (0 ≤ lo.getD 0 ∧ lo.getD 0 ≤ hi.getD el.length ∧ hi.getD el.length ≤ el.length, .d (.sl sz ((el.take (hi.getD el.length).toNat).drop (lo.getD 0).toNat))) else none
        | none => none
      | _ => none
    | none => none
  | .own i => match rows i, tyOf P t with
    | .own sz el, some ty => match ty.k with
      | .slice e => match tyOf P e with
        | some ety => if sz = ety.size then
            some (0 ≤ lo.getD 0 ∧ lo.getD 0 ≤ hi.getD el.length ∧ hi.getD el.length ≤ el.length, .win i (lo.getD 0).toNat ((hi.getD el.length).toNat - (lo.getD 0).toNat)) else none
        | none => none
      | _ => none
    | _, _ => none
  | .ptr i off => match rows i, tyOf P t with
    | .box _, some ty => match ty.k with
      | .array n e => match tyOf P e with
        | some ety => if 1 = ety.size ∧ n ≤ 16777216 then
            some (0 ≤ lo.getD 0 ∧ lo.getD 0 ≤ hi.getD n ∧ hi.getD n ≤ n ∧ lo.getD 0 < n, .win i (off + (lo.getD 0).toNat) ((hi.getD n).toNat - (lo.getD 0).toNat)) else none
        | none => none
      | _ => none
    | _, _ => none
  | _ => none

/-- a bound of a slice expression -/
def bdV (regs : Nat → PV) : Option Operand → Option (Option Int)
  | none => some none
  | some x => match ev regs x with | .d (.lit (.int _ n)) => some (some n) | _ => none

theorem bd_eval {B : Base} {β : Nat → Loc} {X : Nat → Prop} {w : World} {a : Act} {s : St} (hr : SRel B β X w a s) {x : Option Operand} {n : Option Int} (h : bdV s.regs x = some n) :
    (x.map a.eval = none ∧ n = none) ∨ ∃ k m, x.map a.eval = some (.int k m) ∧ n = some m := by
  unfold bdV at h
  split at h
  · simp only [Option.some.injEq] at h; exact .inl ⟨rfl, h.symm⟩
  · rename_i x
    split at h
    · rename_i k m hx
      simp only [Option.some.injEq] at h
      exact .inr ⟨k, m, by rw [Option.map_some, hr.lit hx], h.symm⟩
    · cases h

theorem run_bounds {P : Program} {w : World} {isS : Bool} {len cap : Nat} {lv hv : Option Value} {lo hi : Option Int}
    (hl : (lv = none ∧ lo = none) ∨ ∃ k m, lv = some (.int k m) ∧ lo = some m) (hh : (hv = none ∧ hi = none) ∨ ∃ k m, hv = some (.int k m) ∧ hi = some m)
    (h0 : 0 ≤ lo.getD 0) (h1 : lo.getD 0 ≤ hi.getD len) (h2 : hi.getD len ≤ cap) :
    (Instr.sliceBounds isS len cap lv hv none).run P w = .ok ((lo.getD 0).toNat, (hi.getD len).toNat, cap) w := by
  rcases hl with ⟨rfl, rfl⟩ | ⟨k, m, rfl, rfl⟩ <;> rcases hh with ⟨rfl, rfl⟩ | ⟨k', m', rfl, rfl⟩ <;> simp only [Option.getD_some, Option.getD_none] at h0 h1 h2
  · simp [Instr.sliceBounds]
  · simp [Instr.sliceBounds, Instr.sliceBound, asIntOf, h1, h2]
  · simp [Instr.sliceBounds, Instr.sliceBound, asIntOf, h0, h1]
  · have e1 : 0 ≤ m' := by omega
    have e2 : ¬ max m' 0 < m := by omega
    simp [Instr.sliceBounds, Instr.sliceBound, asIntOf, h0, h2, e1, e2]

set_option maxHeartbeats 1000000 in
theorem op_slice {P : Program} {o : Oper} {s : St} {t : TypeId} {x : Operand} {lv hv : Option Operand} {lo hi : Option Int} {c : Prop} {q : PV} (ho : o.op = .slice t x lv hv none)
    (hl : bdV s.regs lv = some lo) (hh : bdV s.regs hv = some hi) (h : evSl P s.rows t (ev s.regs x) lo hi = some (c, q)) : OpSound P o s (Eff.pureIf c q) := by
  unfold evSl at h
  split at h
  · rename_i str hx
    split at h
    · rename_i ht
      simp only [Option.some.injEq, Prod.mk.injEq] at h
      obtain ⟨rfl, rfl⟩ := h
      refine sound_lit fun B β X w a hr hc => ?_
      have hb := run_bounds (P := P) (w := w) (isS := false) (len := str.size) (cap := str.size) (bd_eval hr hl) (bd_eval hr hh) hc.1 hc.2.1 hc.2.2
      simp only [execOp, ho, hr.lit hx, Instr.sliceAt, Sem.run_bind, run_underlying (tyIs_string ht), Result.andThen_ok, Instr.slice, Option.map_none, Option.isSome_none, Bool.false_eq_true, if_false, hb, Sem.run_pure]
    · cases h
  · rename_i hx
    split at h
    · rename_i ty ht
      split at h
      · rename_i e hk
        have hu := tyOf_slice ht hk
        split at h
        · rename_i ety he
          simp only [Option.some.injEq, Prod.mk.injEq] at h
          obtain ⟨rfl, rfl⟩ := h
          refine sound_lit fun B β X w a hr hc => ?_
          have hb := run_bounds (P := P) (w := w) (isS := true) (len := 0) (cap := 0) (bd_eval hr hl) (bd_eval hr hh) hc.1 (by simpa using hc.2.1) (by simpa using hc.2.2)
          have e1 : (lo.getD 0).toNat = 0 := by omega
          have e2 : (hi.getD ((0 : Nat) : Int)).toNat = 0 := by
            have := hc.2.2
            simp only [Int.cast_ofNat_Int]; omega
          rw [e1, e2] at hb
          simp only [execOp, ho, hr.lit hx, Instr.sliceAt, Sem.run_bind, run_underlying hu, Result.andThen_ok, Instr.slice, Option.map_none, hb, tyOf_size he, Sem.run_pure, if_true, Nat.sub_self]
        · cases h
      · cases h
    · cases h
  · rename_i sz el hx
    split at h
    · rename_i ty ht
      split at h
      · rename_i e hk
        have hu := tyOf_slice ht hk
        split at h
        · rename_i ety he
          split at h
          · rename_i hsz
            subst hsz
            simp only [Option.some.injEq, Prod.mk.injEq] at h
            obtain ⟨rfl, rfl⟩ := h
            refine sound_pure fun B β X w a hr hc => ?_
            have hxx := (hr.ev x).1
            rw [hx] at hxx
            unfold repP rep at hxx
            obtain ⟨ad, cap, vs, h1, h2, h3, h4, h5⟩ := hxx
            have hb := run_bounds (P := P) (w := w) (isS := true) (len := el.length) (cap := cap) (bd_eval hr hl) (bd_eval hr hh) hc.1 hc.2.1 (by omega)
            generalize hL : (lo.getD 0).toNat = L at *
            generalize hH : (hi.getD (el.length : Int)).toNat = H at *
            have hHL : L ≤ H ∧ H ≤ el.length := by omega
            refine ⟨.slice (if cap = L then ad else ad.map (·.add (L * ety.size))) (H - L) (cap - L), ?_, ?_, trivial⟩
            · simp only [execOp, ho, h1, Instr.sliceAt, Sem.run_bind, run_underlying hu, Result.andThen_ok, Instr.slice, Option.map_none, hb, tyOf_size he, Sem.run_pure]
            · unfold repP rep
              have e1 : ((el.take H).drop L).length = H - L := by simp; omega
              refine ⟨_, _, (vs.take (H * ety.size)).drop (L * ety.size), by rw [e1], by omega, by omega, repss_drop L (repss_take H h4), fun hne => ?_⟩
              have hne' : vs ≠ [] := by intro e; subst e; simp at hne
              obtain ⟨b, off, i1, i2, i3⟩ := h5 hne'
              have hcl : ¬ cap = L := by
                intro e
                apply hne
                have : H = L := by omega
                subst this
                simp
              rw [if_neg hcl, i1]
              refine ⟨b, off + L * ety.size, by simp [Addr.add_lit], i2, fun j u hu' => ?_⟩
              rw [List.getElem?_drop, List.getElem?_take] at hu'
              split at hu'
              · rw [Nat.add_assoc]; exact i3 _ u hu'
              · cases hu'
          · cases h
        · cases h
      · cases h
    · cases h
  · rename_i i hx
    split at h
    · rename_i sz el ty hi' ht
      split at h
      · rename_i e hk
        have hu := tyOf_slice ht hk
        split at h
        · rename_i ety he
          split at h
          · rename_i hsz
            subst hsz
            simp only [Option.some.injEq, Prod.mk.injEq] at h
            obtain ⟨rfl, rfl⟩ := h
            refine sound_pure fun B β X w a hr hc => ?_
            have hxx := hr.ev x
            rw [hx] at hxx
            obtain ⟨hx1, hx2⟩ := hxx
            unfold repP at hx1
            have hv := hx1.1 _ _ hi'
            have hrow := hr.mem.ok i
            rw [hi'] at hrow
            obtain ⟨r1, r2, _⟩ := hrow
            have hb := run_bounds (P := P) (w := w) (isS := true) (len := el.length) (cap := (β i).cap) (bd_eval hr hl) (bd_eval hr hh) hc.1 hc.2.1 (by omega)
            refine ⟨.slice (if (β i).cap = (lo.getD 0).toNat then (β i).a else (β i).a.map (·.add ((lo.getD 0).toNat * ety.size))) ((hi.getD (el.length : Int)).toNat - (lo.getD 0).toNat) ((β i).cap - (lo.getD 0).toNat), ?_, ?_, hx2⟩
            · simp only [execOp, ho, hv, Instr.sliceAt, Sem.run_bind, run_underlying hu, Result.andThen_ok, Instr.slice, Option.map_none, hb, tyOf_size he, Sem.run_pure]
            · unfold repP
              refine ⟨?_, fun cells hi'' => by rw [hi'] at hi''; cases hi''⟩
              intro sz' el' hi''
              rw [hi'] at hi''; cases hi''
              exact ⟨by omega, rfl⟩
          · cases h
        · cases h
      · cases h
    · cases h
  · rename_i i off hx
    split at h
    · rename_i cells ty hi' ht
      split at h
      · rename_i n e hk
        have hu := tyOf_array ht hk
        split at h
        · rename_i ety he
          split at h
          · rename_i hsz
            obtain ⟨hsz, hn⟩ := hsz
            simp only [Option.some.injEq, Prod.mk.injEq] at h
            obtain ⟨rfl, rfl⟩ := h
            refine sound_pure fun B β X w a hr hc => ?_
            have hxx := hr.ev x
            rw [hx] at hxx
            obtain ⟨hx1, hx2⟩ := hxx
            unfold repP at hx1
            obtain ⟨b, hb, hv⟩ := hx1 (by rw [hi']; simp)
            have hbd := run_bounds (P := P) (w := w) (isS := false) (len := n) (cap := n) (bd_eval hr hl) (bd_eval hr hh) hc.1 hc.2.1 hc.2.2.1
            have hlt : ¬ n = (lo.getD 0).toNat := by omega
            refine ⟨.slice (some ⟨b, off + (lo.getD 0).toNat, none⟩) ((hi.getD (n : Int)).toNat - (lo.getD 0).toNat) (n - (lo.getD 0).toNat), ?_, ?_, hx2⟩
            · simp only [execOp, ho, hv, Instr.sliceAt, Instr.sureAddr, Sem.run_bind, run_underlying hu, Result.andThen_ok, Option.map_none, hbd, tyOf_size he, Sem.run_pure, if_neg hlt, Addr.add_lit, ← hsz, Nat.mul_one]
            · unfold repP
              refine ⟨fun sz' el' hi'' => (by rw [hi'] at hi''; cases hi''), fun cells' _ => ⟨b, _, hb, rfl, by omega, by unfold maxLen; omega⟩⟩
          · cases h
        · cases h
      · cases h
    · cases h
  · cases h
end Go.AM

namespace Go.AM
open Go

/-! ## convert -/
def TK.isInt : TK → Option IntKind | .int k => some k | _ => none

def isBytes (P : Program) (t : TypeId) : Bool :=
  match tyOf P t with
  | some ty => match ty.k with
    | .slice e => match tyOf P e with
      | some ety => (match ety.k with | .int .u8 => true | _ => false)
      | none => false
    | _ => false
  | none => false

theorem isBytes_spec {P : Program} {t : TypeId} (h : isBytes P t = true) : ∃ e, P.underlying t = some (.slice e) ∧ P.underlying e = some (.int .u8) := by
  unfold isBytes at h
  split at h
  · rename_i ty ht
    split at h
    · rename_i e hk
      split at h
      · rename_i ety he
        split at h
        · rename_i hk'
          exact ⟨e, tyOf_slice ht hk, tyOf_int he hk'⟩
        · cases h
      · cases h
    · cases h
  · cases h

def evConv (P : Program) (rows : Rows) (src dst : TypeId) (p : PV) : Option PV :=
  match p with
  | .d (.lit (.int _ n)) => match tyOf P src, tyOf P dst with
    | some _, some ty => match ty.k with
      | .int k => some (.d (.lit (.int k (k.wrap n))))
      | _ => none
    | _, _ => none
  | .d (.lit (.string s)) => if tyIs P src TK.isStr && tyIs P dst TK.isStr then some (.d (.lit (.string s))) else none
  | .d (.lit (.slice none _ _)) => if isBytes P src && tyIs P dst TK.isStr then some (.d (.lit (.string ⟨⟨[]⟩⟩))) else none
  | p => if isBytes P src && tyIs P dst TK.isStr then match viewOf rows p with
      | some (sz, el) => if sz = 1 then match strOf el with
        | some bs => some (.d (.lit (.string ⟨⟨bs⟩⟩)))
        | none => none
        else none
      | none => none
    else none

theorem op_convert {P : Program} {o : Oper} {s : St} {src dst : TypeId} {x : Operand} {q : PV} (ho : o.op = .convert src dst x) (h : evConv P s.rows src dst (ev s.regs x) = some q) :
    OpSound P o s (Eff.pureIf True q) := by
  unfold evConv at h
  split at h
  · rename_i k0 n hx
    split at h
    · rename_i sty ty hs hd
      split at h
      · rename_i k hk
        simp only [Option.some.injEq] at h; subst h
        obtain ⟨i, u, _, h2, _⟩ := tyOf_spec hs
        refine sound_lit fun B β X w a hr _ => ?_
        simp only [execOp, ho, hr.lit hx, convert, Sem.run_bind, run_underlying h2, run_underlying (tyOf_int hd hk), Result.andThen_ok]
        simp [Conv.intToInt]
      · cases h
    · cases h
  · rename_i str hx
    split at h
    · rename_i ht
      simp only [Bool.and_eq_true] at ht
      simp only [Option.some.injEq] at h; subst h
      refine sound_lit fun B β X w a hr _ => ?_
      simp [execOp, ho, hr.lit hx, convert, run_underlying (tyIs_string ht.1), run_underlying (tyIs_string ht.2)]
    · cases h
  · rename_i n c hx
    split at h
    · rename_i ht
      simp only [Bool.and_eq_true] at ht
      simp only [Option.some.injEq] at h; subst h
      obtain ⟨e, h1, h2⟩ := isBytes_spec ht.1
      refine sound_lit fun B β X w a hr _ => ?_
      simp only [execOp, ho, hr.lit hx, Sem.run_bind, run_convert_bytes_nil w src e h1 h2 n c dst (tyIs_string ht.2), Result.andThen_ok, Sem.run_pure]
      rfl
    · cases h
  · split at h
    · rename_i ht
      simp only [Bool.and_eq_true] at ht
      obtain ⟨e, h1, h2⟩ := isBytes_spec ht.1
      split at h
      · rename_i sz el hv
        split at h
        · rename_i hsz
          subst hsz
          split at h
          · rename_i bs hbs
            simp only [Option.some.injEq] at h; subst h
            refine sound_lit fun B β X w a hr _ => ?_
            obtain ⟨ad, cap, vs, g1, g2, g3, g4, g5⟩ := viewOf_ok hr.mem (hr.ev x).1 hv
            obtain ⟨ns, i1, i2⟩ := strOf_vs hbs g4
            subst i1
            have hl := repss_length g4
            simp only [List.length_map, Nat.mul_one] at hl
            have key : (convert src dst (.slice ad el.length cap)).run P w = .ok (.string ⟨⟨bs⟩⟩) w := by
              rw [run_convert_bytes_string w src dst e ad el.length cap h1 h2 (tyIs_string ht.2)]
              by_cases hn : ns = []
              · subst hn
                have h0 : el.length = 0 := by simpa using hl.symm
                rw [h0]
                subst i2
                cases ad with
                | none => simp [Conv.bytesToString]; rfl
                | some ad => exact run_bts ad 0 cap [] rfl (fun j u hu => by simp at hu)
              · obtain ⟨b, off, j1, j2⟩ := g5 (by simpa using hn)
                subst j1
                rw [run_bts ⟨b, off, none⟩ el.length cap ns hl (fun j u hu => by rw [Addr.add_lit]; exact j2 j u hu), i2]
            simp only [execOp, ho, g1, Sem.run_bind, key, Result.andThen_ok, Sem.run_pure]
          · cases h
        · cases h
      · cases h
    · cases h

/-! ## small ones -/
def evExtract (p : PV) (i : Nat) : Option PV := match p with | .tup ps => ps[i]? | _ => none

theorem repPs_get {rows : Rows} {β : Nat → Loc} {w : World} {X : Nat → Prop} : ∀ {ps : List PV} {vs : List Value}, repPs rows β w X ps vs → ∀ (j : Nat) (p : PV), ps[j]? = some p → ∃ u, vs[j]? = some u ∧ repP rows β w X p u
  | [], vs, h => by intro j x hx; simp at hx
  | c :: cs, vs, h => by
    unfold repPs at h
    obtain ⟨u, us, h1, h3, h4⟩ := h
    subst h1
    intro j x hx
    cases j with
    | zero => simp at hx; subst hx; exact ⟨u, rfl, h3⟩
    | succ j => simpa using repPs_get h4 j x (by simpa using hx)

theorem op_extract {P : Program} {o : Oper} {s : St} {x : Operand} {i : Nat} {q : PV} (ho : o.op = .extract x i) (h : evExtract (ev s.regs x) i = some q) : OpSound P o s (Eff.pureIf True q) := by
  unfold evExtract at h
  split at h
  · rename_i ps hx
    refine sound_pure fun B β X w a hr _ => ?_
    have hxx := hr.ev x
    rw [hx] at hxx
    obtain ⟨h1, h2⟩ := hxx
    unfold repP at h1
    obtain ⟨vs, h3, h4⟩ := h1
    obtain ⟨u, h5, h6⟩ := repPs_get h4 i q h
    refine ⟨u, ?_, h6, Scs.mem h2 q (List.mem_of_getElem? h)⟩
    simp [execOp, ho, h3, Instr.extract, h5]
  · cases h

theorem evs_ok {B : Base} {β : Nat → Loc} {X : Nat → Prop} {w : World} {a : Act} {s : St} (hr : SRel B β X w a s) : ∀ (xs : List Operand),
    repPs s.rows β w X (xs.map (ev s.regs)) (xs.map a.eval) ∧ Scs (· < s.nx) (xs.map (ev s.regs))
  | [] => ⟨by simp [repPs], trivial⟩
  | x :: xs => by
    obtain ⟨h1, h2⟩ := evs_ok hr xs
    simp only [List.map_cons]
    refine ⟨?_, (hr.ev x).2, h2⟩
    unfold repPs
    exact ⟨_, _, rfl, (hr.ev x).1, h1⟩

theorem op_makeFunc {P : Program} {o : Oper} {s : St} {fn : Fn} {f c : Array Operand} (ho : o.op = .makeFunc fn f c) :
    OpSound P o s (Eff.pureIf True (.clo fn (f.toList.map (ev s.regs)) (c.toList.map (ev s.regs)))) :=
  sound_pure fun B β X w a hr _ => by
    refine ⟨.func fn (f.map a.eval) (c.map a.eval), by simp only [execOp, ho, Instr.makeFunc, Sem.run_bind, Sem.run_pure, Result.andThen_ok], ?_, (evs_ok hr f.toList).2, (evs_ok hr c.toList).2⟩
    unfold repP
    exact ⟨f.toList.map a.eval, c.toList.map a.eval, by congr 1 <;> (apply Array.toList_inj.1; simp), (evs_ok hr f.toList).1, (evs_ok hr c.toList).1⟩

def notIface (P : Program) (t : TypeId) : Bool := match tyOf P t with | some ty => (match ty.k with | .iface => false | _ => true) | none => false

theorem op_makeInterface {P : Program} {o : Oper} {s : St} {t : TypeId} {x : Operand} (ho : o.op = .makeInterface t x) (h : notIface P t = true) :
    OpSound P o s (Eff.pureIf True (.ifc t (ev s.regs x))) :=
  sound_pure fun B β X w a hr _ => by
    refine ⟨.iface t (a.eval x), ?_, ?_, (hr.ev x).2⟩
    · unfold notIface at h
      split at h
      · rename_i ty ht
        obtain ⟨i, u, h1, h2, h3, _⟩ := tyOf_spec ht
        split at h
        · cases h
        · rename_i hk
          simp only [execOp, ho, Instr.makeInterface, Sem.run_bind, run_underlying h2, Result.andThen_ok]
          rw [h3] at hk
          cases u <;> first | rfl | (simp [tkOf] at hk)
      · cases h
    · unfold repP
      exact ⟨_, rfl, (hr.ev x).1⟩

/-! ## buildSlice -/
def bsEl (sz : Nat) : Nat → List (Nat × PV) → Option (List (List DV))
  | _, [] => some []
  | k, (i, p) :: rest =>
    if i = k then
      match (match p with | .d (.agg cs) => some cs | .d (.lit v) => if oc v then some [.lit v] else none | .d (.sl a b) => some [.sl a b] | _ => none) with
      | some ds => if ds.length = sz then match bsEl sz (k + 1) rest with | some el => some (ds :: el) | none => none else none
      | none => none
    else none

theorem bsEl_len {sz : Nat} : ∀ {parts : List (Nat × PV)} {k : Nat} {el : List (List DV)}, bsEl sz k parts = some el → el.length = parts.length
  | [], k, el, h => by simp [bsEl] at h; subst h; rfl
  | (i, p) :: rest, k, el, h => by
    unfold bsEl at h
    split at h
    · split at h
      · split at h
        · split at h
          · rename_i el' hel
            simp only [Option.some.injEq] at h; subst h
            simp [bsEl_len hel]
          · cases h
        · cases h
      · cases h
    · cases h

theorem bsEl_ok {rows : Rows} {β : Nat → Loc} {w : World} {X : Nat → Prop} {sz : Nat} : ∀ {parts : List (Nat × PV)} {vparts : List (Nat × Value)} {k : Nat} {el : List (List DV)} {cs : Array Value},
    bsEl sz k parts = some el → parts.length = vparts.length → (∀ (j i : Nat) (p : PV) (i' : Nat) (v : Value), parts[j]? = some (i, p) → vparts[j]? = some (i', v) → i' = i ∧ repP rows β w X p v) →
    k * sz + parts.length * sz ≤ cs.size →
    ∃ cs' vs, Instr.fill (fun i => some (i * sz, sz)) cs vparts = some cs' ∧ repss w X sz el vs ∧ cs'.toList = cs.toList.take (k * sz) ++ vs ++ cs.toList.drop (k * sz + parts.length * sz)
  | [], [], k, el, cs, h, _, _, _ => by
    simp only [bsEl, Option.some.injEq] at h; subst h
    exact ⟨cs, [], rfl, by simp [repss], by simp⟩
  | [], _ :: _, k, el, cs, h, hl, _, _ => by simp at hl
  | _ :: _, [], k, el, cs, h, hl, _, _ => by simp at hl
  | (i, p) :: rest, (i', v) :: vrest, k, el, cs, h, hl, hp, hs => by
    obtain ⟨rfl, hpv⟩ := hp 0 i p i' v rfl rfl
    unfold bsEl at h
    split at h
    · rename_i hik
      subst hik
      split at h
      · rename_i ds hds
        split at h
        · rename_i hdl
          split at h
          · rename_i el' hel
            simp only [Option.some.injEq] at h; subst h
            have hc : reps w X ds v.cells.toList := by
              split at hds
              · simp only [Option.some.injEq] at hds; subst hds
                unfold repP rep at hpv
                obtain ⟨vs, rfl, h2⟩ := hpv
                simpa [Value.cells] using h2
              · split at hds
                · rename_i ho
                  simp only [Option.some.injEq] at hds; subst hds
                  unfold repP rep at hpv
                  subst hpv
                  rw [cells_one ho]
                  unfold reps
                  exact ⟨_, _, rfl, ho, by simp [rep], by simp [reps]⟩
                · cases hds
              · simp only [Option.some.injEq] at hds; subst hds
                unfold repP at hpv
                have hpv' := hpv
                unfold rep at hpv
                obtain ⟨a, cap, vs, rfl, _⟩ := hpv
                unfold reps
                exact ⟨_, _, rfl, rfl, hpv', by simp [reps]⟩
              · cases hds
            have hcl := reps_length hc
            simp only [Array.length_toList] at hcl
            simp only [List.length_cons, Nat.add_mul, Nat.one_mul] at hs
            rw [fill_cons (off := i' * sz) (size := sz) rfl (by omega) (by omega)]
            obtain ⟨cs', vs, f1, f2, f3⟩ := bsEl_ok (cs := (cs.toList.take (i' * sz) ++ v.cells.toList ++ cs.toList.drop (i' * sz + sz)).toArray) (vparts := vrest) hel (by simpa using hl) (fun j i p k v a b => hp (j + 1) i p k v a b)
              (by simp [hcl, hdl, Nat.add_mul]; omega)
            refine ⟨cs', v.cells.toList ++ vs, f1, ?_, ?_⟩
            · unfold repss
              exact ⟨_, _, rfl, by simp; omega, hc, f2⟩
            · rw [f3]
              have hA : (cs.toList.take (i' * sz) ++ v.cells.toList).length = (i' + 1) * sz := by simp [hcl, hdl, Nat.add_mul]; omega
              simp only [List.length_cons, Nat.add_mul, Nat.one_mul]
              have e1 : List.take ((i' + 1) * sz) (List.take (i' * sz) cs.toList ++ v.cells.toList ++ List.drop (i' * sz + sz) cs.toList) = List.take (i' * sz) cs.toList ++ v.cells.toList := by
                rw [List.take_append, List.take_of_length_le (by omega), hA]; simp
              have e2 : List.drop ((i' + 1) * sz + rest.length * sz) (List.take (i' * sz) cs.toList ++ v.cells.toList ++ List.drop (i' * sz + sz) cs.toList) = List.drop (i' * sz + (rest.length * sz + sz)) cs.toList := by
                rw [List.drop_append, List.drop_of_length_le (by omega), hA, List.drop_drop]
                simp only [List.nil_append]
                congr 1; rw [Nat.add_mul]; omega
              simp only [Nat.add_mul, Nat.one_mul] at e1 e2
              rw [e1, e2]
              simp
          · cases h
        · cases h
      · cases h
    · cases h

theorem cellsP_Sc {rows : Rows} {p : PV} {ps : List PV} (h : cellsP rows p = some ps) {S : Nat → Prop} (hs : Sc S p) : Scs S ps := by
  unfold cellsP at h
  split at h
  · simp only [Option.some.injEq] at h; subst h; exact hs
  · simp only [Option.some.injEq] at h; subst h
    exact Scs.of_mem fun p hp => by obtain ⟨v, _, rfl⟩ := List.mem_map.1 hp; trivial
  · split at h
    · simp only [Option.some.injEq] at h; subst h; exact ⟨trivial, trivial⟩
    · cases h
  · simp only [Option.some.injEq] at h; subst h; exact ⟨trivial, trivial⟩
  · split at h
    · simp only [Option.some.injEq] at h; subst h; exact ⟨hs, trivial⟩
    · simp only [Option.some.injEq] at h; subst h; exact ⟨hs, trivial⟩
    · cases h
  · split at h
    · simp only [Option.some.injEq] at h; subst h; exact ⟨hs, trivial⟩
    · simp only [Option.some.injEq] at h; subst h; exact ⟨hs, trivial⟩
    · cases h
  · split at h
    · cases h
    · simp only [Option.some.injEq] at h; subst h; exact ⟨hs, trivial⟩
  · split at h
    · cases h
    · simp only [Option.some.injEq] at h; subst h; exact ⟨hs, trivial⟩
  · simp only [Option.some.injEq] at h; subst h; exact ⟨hs, trivial⟩
  · simp only [Option.some.injEq] at h; subst h; exact ⟨hs, trivial⟩
  · cases h

/-- values of one cell, one after the other -/
def bsP (rows : Rows) : Nat → List (Nat × PV) → Option (List PV)
  | _, [] => some []
  | k, (i, p) :: rest =>
    if i = k then
      match cellsP rows p with
      | some [q] => (match bsP rows (k + 1) rest with | some ps => some (q :: ps) | none => none)
      | _ => none
    else none

theorem bsP_len {rows : Rows} : ∀ {parts : List (Nat × PV)} {k : Nat} {ps : List PV}, bsP rows k parts = some ps → ps.length = parts.length
  | [], k, ps, h => by simp [bsP] at h; subst h; rfl
  | (i, p) :: rest, k, ps, h => by
    unfold bsP at h
    split at h
    · split at h
      · split at h
        · rename_i ps' hps
          simp only [Option.some.injEq] at h; subst h
          simp [bsP_len hps]
        · cases h
      · cases h
    · cases h

theorem bsP_ok {rows : Rows} {β : Nat → Loc} {w : World} {X : Nat → Prop} {S : Nat → Prop} : ∀ {parts : List (Nat × PV)} {vparts : List (Nat × Value)} {k : Nat} {ps : List PV} {cs : Array Value},
    bsP rows k parts = some ps → parts.length = vparts.length → (∀ (j i : Nat) (p : PV) (i' : Nat) (v : Value), parts[j]? = some (i, p) → vparts[j]? = some (i', v) → i' = i ∧ repP rows β w X p v ∧ Sc S p) →
    k + parts.length ≤ cs.size →
    ∃ cs' vs, Instr.fill (fun i => some (i * 1, 1)) cs vparts = some cs' ∧ repPs rows β w X ps vs ∧ (∀ u ∈ vs, oc u = true) ∧ cs'.toList = cs.toList.take k ++ vs ++ cs.toList.drop (k + parts.length)
  | [], [], k, ps, cs, h, _, _, _ => by
    simp only [bsP, Option.some.injEq] at h; subst h
    exact ⟨cs, [], rfl, by simp [repPs], by simp, by simp⟩
  | [], _ :: _, k, ps, cs, h, hl, _, _ => by simp at hl
  | _ :: _, [], k, ps, cs, h, hl, _, _ => by simp at hl
  | (i, p) :: rest, (i', v) :: vrest, k, ps, cs, h, hl, hp, hs => by
    obtain ⟨rfl, hpv, hsc⟩ := hp 0 i p i' v rfl rfl
    unfold bsP at h
    split at h
    · rename_i hik
      subst hik
      split at h
      · rename_i q hq
        split at h
        · rename_i ps' hps
          simp only [Option.some.injEq] at h; subst h
          obtain ⟨r1, r2, _⟩ := cellsP_ok hpv hsc hq
          have hcl := repPs_length r1
          simp only [List.length_singleton] at hcl
          obtain ⟨u, hu⟩ : ∃ u, v.cells.toList = [u] := List.length_eq_one_iff.1 hcl
          rw [hu] at r1 r2
          have hvo : oc u = true := r2 u (by simp)
          have hq1 : repP rows β w X q u := by
            unfold repPs at r1
            obtain ⟨u', us, e, g1, _⟩ := r1
            simp only [List.cons.injEq] at e
            rw [e.1]; exact g1
          simp only [List.length_cons] at hs
          have hcs : v.cells.size = 1 := by rw [← Array.length_toList, hu]; rfl
          rw [fill_cons (off := i' * 1) (size := 1) rfl (by omega) (by omega)]
          obtain ⟨cs', vs, f1, f2, f3, f4⟩ := bsP_ok (S := S) (cs := (cs.toList.take (i' * 1) ++ v.cells.toList ++ cs.toList.drop (i' * 1 + 1)).toArray) (vparts := vrest) hps (by simpa using hl) (fun j i p k v a b => hp (j + 1) i p k v a b)
            (by simp [hcs]; omega)
          refine ⟨cs', u :: vs, f1, ?_, ?_, ?_⟩
          · unfold repPs
            exact ⟨_, _, rfl, hq1, f2⟩
          · intro x hx
            rcases List.mem_cons.1 hx with rfl | hx
            · exact hvo
            · exact f3 x hx
          · rw [f4, hu]
            simp only [Nat.mul_one, List.length_cons]
            have hA : (cs.toList.take i' ++ [u]).length = i' + 1 := by simp; omega
            have e1 : List.take (i' + 1) (List.take i' cs.toList ++ [u] ++ List.drop (i' + 1) cs.toList) = List.take i' cs.toList ++ [u] := by
              rw [List.take_append, List.take_of_length_le (by omega), hA]; simp
            have e2 : List.drop (i' + 1 + rest.length) (List.take i' cs.toList ++ [u] ++ List.drop (i' + 1) cs.toList) = List.drop (i' + (rest.length + 1)) cs.toList := by
              rw [List.drop_append, List.drop_of_length_le (by omega), hA, List.drop_drop]
              simp only [List.nil_append]
              congr 1; omega
            rw [e1, e2]
            simp
        · cases h
      · cases h
    · cases h

theorem bsP_sc {rows : Rows} {S : Nat → Prop} : ∀ {parts : List (Nat × PV)} {k : Nat} {ps : List PV}, bsP rows k parts = some ps → (∀ x ∈ parts, Sc S x.2) → Scs S ps
  | [], k, ps, h, _ => by simp [bsP] at h; subst h; trivial
  | (i, p) :: rest, k, ps, h, hs => by
    unfold bsP at h
    split at h
    · split at h
      · rename_i q hq
        split at h
        · rename_i ps' hps
          simp only [Option.some.injEq] at h; subst h
          exact ⟨(cellsP_Sc hq (hs _ List.mem_cons_self)).1, bsP_sc hps fun x hx => hs x (List.mem_cons_of_mem _ hx)⟩
        · cases h
      · cases h
    · cases h

def evBS (P : Program) (s : St) (t : TypeId) (len : Nat) (parts : List (Nat × PV)) : Option Eff :=
  match tyOf P t with
  | some ty => match ty.k with
    | .slice e => match tyOf P e with
      | some ety => match ety.zero with
        | some _ => if parts.length = len && (len * ety.size ≤ 16777216 && len ≤ 16777216) then match (if ety.k.isPtr && decide (0 < len) then none else bsEl ety.size 0 parts) with
          | some el => some (effNew (.own ety.size el) s.nx (.own s.nx) True)
          | none => if 1 = ety.size ∧ 0 < len then (match bsP s.rows 0 parts with
            | some ps => some (effNew (.box ps) s.nx (.own s.nx) True)
            | none => none) else none
          else none
        | none => none
      | none => none
    | _ => none
  | none => none

theorem op_buildSlice {P : Program} {o : Oper} {s : St} {t : TypeId} {len : Nat} {parts : Array (Nat × Operand)} {e : Eff} (ho : o.op = .buildSlice t len parts)
    (h : evBS P s t len (parts.toList.map fun x => (x.1, ev s.regs x.2)) = some e) : OpSound P o s e := by
  unfold evBS at h
  split at h
  · rename_i ty ht
    split at h
    · rename_i et hk
      have hu := tyOf_slice ht hk
      split at h
      · rename_i ety he
        split at h
        · rename_i z hz
          split at h
          · rename_i hc
            simp only [Bool.and_eq_true, decide_eq_true_eq] at hc
            split at h
            · rename_i el hel
              have hel : bsEl ety.size 0 (parts.toList.map fun x => (x.1, ev s.regs x.2)) = some el := by
                split at hel
                · cases hel
                · exact hel
              simp only [Option.some.injEq] at h; subst h
              intro B β X w a hr _
              have hlen := bsEl_len hel
              rw [hc.1] at hlen
              have hsize : ∀ (zc : Array Value), ((Array.range (len * ety.size)).map (fun x => zc[x % zc.size]!)).size = len * ety.size := by intro zc; simp
              generalize hzc : (if len * ety.size = 0 then #[] else z.cells) = zc
              obtain ⟨cs', vs, f1, f2, f3⟩ := bsEl_ok (rows := s.rows) (β := β) (w := w) (X := X) (vparts := parts.toList.map fun x => (x.1, a.eval x.2))
                (cs := (Array.range (len * ety.size)).map (fun x => zc[x % zc.size]!)) hel (by simp) (fun j i p k v h1 h2 => by
                simp only [List.getElem?_map, Option.map_eq_some_iff] at h1 h2
                obtain ⟨x, hx, hx'⟩ := h1
                obtain ⟨y, hy, hy'⟩ := h2
                rw [hx] at hy
                obtain rfl : x = y := by simpa using hy
                simp only [Prod.mk.injEq] at hx' hy'
                obtain ⟨rfl, rfl⟩ := hx'
                obtain ⟨rfl, rfl⟩ := hy'
                exact ⟨rfl, (hr.ev x.2).1⟩) (by rw [hc.1, hsize]; omega)
              have hvl := repss_length f2
              have hcs : cs'.toList = vs := by
                rw [f3, hc.1]
                simp only [Nat.zero_mul, List.take_zero, List.nil_append, Nat.zero_add]
                rw [List.drop_of_length_le (by simp)]
                simp
              have hmx : len ≤ maxLen := by
                have := hc.2.2; unfold maxLen; omega
              obtain ⟨β', m1, m2, m3⟩ := hr.mem.row et (cs := cs') (cap := len) (el := el) (sz := ety.size)
                (by rw [hcs, List.take_of_length_le (by omega)]; exact f2) (by omega) (by rw [← Array.length_toList, hcs, hvl, hlen]) hmx
              rw [hlen] at m2
              refine ⟨_, _, β', _, .inl ?_, hr.of_mem m1 (by omega) m3, m2, by show s.nx < s.nx + 1; omega⟩
              have hbig : ¬ (len * ety.size > 2 ^ 24) := by have := hc.2.1; omega
              have f1' : Instr.fill (fun i => some (i * ety.size, ety.size)) ((Array.range (len * ety.size)).map (fun x => zc[x % zc.size]!)) (parts.map fun x => (x.1, a.eval x.2)).toList = some cs' := by
                simpa using f1
              simp only [execOp, ho, Instr.buildSlice, Sem.run_bind, run_underlying hu, Result.andThen_ok, tyOf_size he, hbig, if_false, Sem.run_pure]
              by_cases h0 : len * ety.size = 0
              · rw [if_pos h0] at hzc ⊢
                subst hzc
                simp only [Sem.run_bind, Sem.run_pure, Result.andThen_ok, f1', run_newRow]
              · rw [if_neg h0] at hzc ⊢
                subst hzc
                simp only [Sem.run_bind, Sem.run_pure, Result.andThen_ok, tyOf_zero he hz, f1', run_newRow]
            · split at h
              · rename_i hsl
                obtain ⟨hs1, hl0⟩ := hsl
                split at h
                · rename_i ps hps
                  simp only [Option.some.injEq] at h; subst h
                  intro B β X w a hr _
                  have hlen := bsP_len hps
                  rw [hc.1] at hlen
                  have hsize : ∀ (zc : Array Value), ((Array.range (len * 1)).map (fun x => zc[x % zc.size]!)).size = len := by intro zc; simp
                  obtain ⟨cs', vs, f1, f2, f3, f4⟩ := bsP_ok (S := (· < s.nx)) (rows := s.rows) (β := β) (w := w) (X := X) (vparts := parts.toList.map fun x => (x.1, a.eval x.2))
                    (cs := (Array.range (len * 1)).map (fun x => z.cells[x % z.cells.size]!)) hps (by simp) (fun j i p v1 v h1 h2 => by
                    simp only [List.getElem?_map, Option.map_eq_some_iff] at h1 h2
                    obtain ⟨x, hx, hx'⟩ := h1
                    obtain ⟨y, hy, hy'⟩ := h2
                    rw [hx] at hy
                    obtain rfl : x = y := by simpa using hy
                    simp only [Prod.mk.injEq] at hx' hy'
                    obtain ⟨rfl, rfl⟩ := hx'
                    obtain ⟨rfl, rfl⟩ := hy'
                    exact ⟨rfl, (hr.ev x.2).1, (hr.ev x.2).2⟩) (by rw [hc.1, hsize]; omega)
                  have hcs : cs'.toList = vs := by
                    rw [f4, hc.1]
                    simp only [List.take_zero, List.nil_append, Nat.zero_add]
                    rw [List.drop_of_length_le (by simp)]
                    simp
                  have hsc : Scs (· < s.nx) ps := bsP_sc hps fun x hx => by
                    obtain ⟨y, _, rfl⟩ := List.mem_map.1 hx
                    exact (hr.ev y.2).2
                  have hmx : len ≤ maxLen := by
                    have := hc.2.2; unfold maxLen; omega
                  have hcl : cs'.toList.length = len := by rw [hcs]; have := repPs_length f2; omega
                  have htk : cs'.toList.take ps.length = vs := by rw [List.take_of_length_le (by omega), hcs]
                  obtain ⟨β', m1, _, m2, m3⟩ := hr.mem.pbox et len (cs := cs') (ps := ps) (by rw [htk]; exact f2) (by rw [htk]; exact f3) hsc (by rw [← Array.length_toList, hcl]; exact Nat.le_refl _) hmx
                  have m2 := m2 (by omega)
                  rw [hlen] at m2
                  refine ⟨.slice (some ⟨w.heap.size, 0, none⟩) len len, _, β', _, .inl ?_, hr.of_mem m1 (by omega) m3, m2, by show s.nx < s.nx + 1; omega⟩
                  have hbig : ¬ (len * 1 > 2 ^ 24) := by have := hc.2.1; omega
                  have f1' : Instr.fill (fun i => some (i * 1, 1)) ((Array.range (len * 1)).map (fun x => z.cells[x % z.cells.size]!)) (parts.map fun x => (x.1, a.eval x.2)).toList = some cs' := by
                    simpa using f1
                  have h0 : ¬ (len * 1 = 0) := by omega
                  rw [← hs1] at hc
                  have hsz := tyOf_size he
                  rw [← hs1] at hsz
                  simp only [execOp, ho, Instr.buildSlice, Sem.run_bind, run_underlying hu, Result.andThen_ok, hsz, hbig, if_false, Sem.run_pure, h0, tyOf_zero he hz, f1', run_newRow]
                · cases h
              · cases h
          · cases h
        · cases h
      · cases h
    · cases h
  · cases h
end Go.AM

namespace Go.AM
open Go

/-- a block that no row has any more becomes a new row -/
theorem Mem.adopt {B : Base} {β : Nat → Loc} {X : Nat → Prop} {w : World} {rows : Rows} {nx : Nat} (h : Mem B β X w rows nx) (b : Nat) (o : Obj) (l : Loc) (r : Row)
    (hX : X b) (hlt : b < w.heap.size) (hfree : ∀ i, rblk (β i) (rows i) ≠ some b) (hL : b < B.w0.heap.size → B.L b)
    (hr : rowOk (upd rows nx r) (upd β nx l) (setBlk w b o) X l r) (hrb : rblk l r = some b) (hs : rowSc (· < nx) r) :
    Mem B (upd β nx l) X (setBlk w b o) (upd rows nx r) (nx + 1) ∧ KeepX w X (setBlk w b o) X := by
  have hold : ∀ c, c ≠ b → (setBlk w b o).heap[c]? = w.heap[c]? := fun c hcb => by
    simp only [setBlk, Array.getElem?_setIfInBounds]; rw [if_neg (Ne.symm hcb)]
  have hk : KeepX w X (setBlk w b o) X := fun c _ hx => ⟨hold c (fun e => hx (e ▸ hX)), hx⟩
  have hC : ∀ i, i < nx → RowC (rows i) (upd rows nx r i) ∧ (upd rows nx r i ≠ .dead → upd β nx l i = β i) := fun i hi => by
    rw [upd_ne _ _ (by omega), upd_ne _ _ (by omega)]; exact ⟨RowC.refl _, fun _ => rfl⟩
  refine ⟨⟨fun i => ?_, fun i j c hi hj => ?_, fun i hi => ?_, fun i => ?_, h.os, h.tape, h.output, by simpa [setBlk] using h.size, fun c hc hl => ?_, h.xs, fun i c hi hlt0 => ?_, h.fx, Nat.le_succ_of_le h.kln, fun i hi => by have := h.kln; rw [upd_ne _ _ (by omega), upd_ne _ _ (by omega)]; exact h.lk i hi⟩, hk⟩
  · by_cases hi : i = nx
    · subst hi; rw [upd_same, upd_same]; exact hr
    · rw [upd_ne _ _ hi, upd_ne _ _ hi]
      refine rowOk_mono (S := (· < nx)) hk hC (h.sr i) (fun c hc => ⟨hold c ?_, fun x => x⟩) (h.ok i)
      intro e; subst e; exact hfree i hc
  · by_cases hi' : i = nx <;> by_cases hj' : j = nx
    · omega
    · subst hi'; rw [upd_same, upd_same, hrb] at hi; rw [upd_ne _ _ hj', upd_ne _ _ hj'] at hj
      cases hi; exact absurd hj (hfree j)
    · subst hj'; rw [upd_same, upd_same, hrb] at hj; rw [upd_ne _ _ hi', upd_ne _ _ hi'] at hi
      cases hj; exact absurd hi (hfree i)
    · rw [upd_ne _ _ hi', upd_ne _ _ hi'] at hi; rw [upd_ne _ _ hj', upd_ne _ _ hj'] at hj
      exact h.inj i j c hi hj
  · rw [upd_ne _ _ (by omega)]; exact h.dead i (by omega)
  · by_cases hi : i = nx
    · subst hi; rw [upd_same]; exact rowSc.mono (fun _ k => by omega) _ hs
    · rw [upd_ne _ _ hi]; exact rowSc.mono (fun _ k => by omega) _ (h.sr i)
  · rw [hold c ?_]; · exact h.keep c hc hl
    intro e; subst e; exact hl (hL hc)
  · by_cases hi' : i = nx
    · subst hi'; rw [upd_same, upd_same, hrb] at hi; cases hi; exact hL hlt0
    · rw [upd_ne _ _ hi', upd_ne _ _ hi'] at hi; exact h.lent i c hi hlt0

section
variable {P : Program} {w : World} {t t' ty e : TypeId} {ety : Ty}

/-- the type of what is appended: a slice's or a string -/
def SlStr (P : Program) (t : TypeId) : Prop := (∃ e, P.underlying t = some (.slice e)) ∨ P.underlying t = some .string

theorem run_app_fits (hu : P.underlying t = some (.slice e)) (he : tyOf P e = some ety) (hn : SlStr P t') (base : Option Addr) (n cap m : Nat) (x : Value) (news : Array Value)
    (hl : (Builtin.lenOf x).run P w = .ok m w) (hf : (Builtin.firstCells ety.size m x).run P w = .ok news w) (hfit : n + m ≤ cap) :
    (Builtin.append_ #[t, t'] ty #[.slice base n cap, x]).run P w =
      match base with
      | some a => ((storeCells (a.add (n * ety.size)) news.toList).run P w).andThen fun _ w' => .ok (.slice base (n + m) cap) w'
      | none => .ok (.slice base (n + m) cap) w := by
  rcases hn with ⟨e', h1⟩ | h1 <;> cases base <;> simp [Builtin.append_, run_underlying hu, run_underlying h1, tyOf_size he, hl, hf, hfit]

theorem run_app_grow (hu : P.underlying t = some (.slice e)) (he : tyOf P e = some ety) {z : Value} (hz : ety.zero = some z) (hn : SlStr P t') (base : Option Addr) (n cap m : Nat) (x : Value) (olds news : Array Value)
    (hl : (Builtin.lenOf x).run P w = .ok m w) (ho : (Builtin.firstCells ety.size n (.slice base n cap)).run P w.drew = .ok olds w.drew) (hf : (Builtin.firstCells ety.size m x).run P w.drew = .ok news w.drew)
    (hg : cap < n + m) (hb : (n + m) * ety.bytes ≤ 140737488355328) (hmx : n + m ≤ 9223372036854775807) :
    ∃ nc rest, n + m ≤ nc ∧ nc ≤ maxLen ∧ rest.size = (nc - (n + m)) * z.cells.size ∧ (Builtin.append_ #[t, t'] ty #[.slice base n cap, x]).run P w =
      .ok (.slice (some ⟨w.heap.size, 0, none⟩) (n + m) nc) (wpush w.drew (.cells (olds ++ news ++ rest) e)) := by
  obtain ⟨i, ud, q1, q2, q3, q4, q5, q6⟩ := tyOf_spec he
  have hnc : ¬ (n + m ≤ cap) := by omega
  have hfit := growslice_fits hg hb
  have h48' : ¬ (281474976710656 < Builtin.nextslicecap (n + m) cap * ety.bytes) := by omega
  refine ⟨grownCap w (n + m) cap e, Builtin.zeroCells z.cells (grownCap w (n + m) cap e - (n + m)), grownCap_ge _ _ _ _, grownCap_le_maxLen _ _ _ _ (by unfold maxLen; omega), size_zeroCells _ _, ?_⟩
  have hcast : ¬ ((9223372036854775807 : Int) < (n : Int) + (m : Int) ∧ ety.bytes = 0) := by omega
  rcases hn with ⟨e', h1⟩ | h1 <;>
  · simp [Builtin.append_, run_underlying hu, run_underlying h1, tyOf_size he, hl, hnc, q1, ← q5, h48', typeInfo, Question.forced]
    rw [if_neg hcast, ho]
    simp only [Result.andThen_ok, hf, tyOf_zero he hz, run_newRow]
    rfl
end
end Go.AM

namespace Go.AM
open Go

def encB (b : UInt8) : List DV := [.lit (.int .u8 b.toNat)]

theorem reps_encB (w : World) (X : Nat → Prop) : ∀ (bs : List UInt8), repss w X 1 (bs.map encB) (bs.map fun b => Value.int .u8 b.toNat)
  | [] => by simp [repss]
  | b :: bs => by
    simp only [List.map_cons]
    unfold repss
    refine ⟨[_], _, rfl, rfl, ?_, reps_encB w X bs⟩
    unfold encB reps
    exact ⟨_, _, rfl, rfl, by simp [rep], by simp [reps]⟩

theorem strOf_encB : ∀ (bs : List UInt8), strOf (bs.map encB) = some bs
  | [] => rfl
  | b :: bs => by
    simp only [List.map_cons, encB, strOf, strOf_encB bs]
    simp

/-- what is appended -/
def srcEl (P : Program) (rows : Rows) (t' : TypeId) (sz : Nat) (q : PV) : Option (List (List DV)) :=
  match q with
  | .d (.lit (.string s)) => if tyIs P t' TK.isStr && sz == 1 then some (s.data.toList.map encB) else none
  | .d (.lit (.slice _ 0 _)) => if tyIs P t' TK.isSl then some [] else none
  | q => match viewOf rows q with
    | some (sz', el) => if tyIs P t' TK.isSl && sz' == sz then some el else none
    | none => none

theorem cell?_heap {w w' : World} (h : w'.heap = w.heap) (a : Addr) : w'.cell? a = w.cell? a := by simp [World.cell?, h]

theorem firstCells_view {P : Program} {w : World} {sz n : Nat} {a : Option Addr} {cap : Nat} {vs : List Value} (hl : vs.length = n * sz)
    (h : vs ≠ [] → ∃ b off, a = some ⟨b, off, none⟩ ∧ ∀ j u, vs[j]? = some u → w.cell? ⟨b, off + j, none⟩ = some u) :
    ∀ w', w'.heap = w.heap → (Builtin.firstCells sz n (.slice a n cap)).run P w' = .ok vs.toArray w' := by
  intro w' hw
  by_cases hv : vs = []
  · subst hv
    cases a with
    | none => simp [Builtin.firstCells]
    | some a => exact run_firstCells_some (P := P) w' sz n a n cap [] hl (by simp)
  · obtain ⟨b, off, h1, h2⟩ := h hv
    subst h1
    exact run_firstCells_some (P := P) w' sz n _ n cap vs hl (fun j u hu => by rw [Addr.add_lit, cell?_heap hw]; exact h2 j u hu)

theorem srcEl_ok {P : Program} {B : Base} {β : Nat → Loc} {X : Nat → Prop} {w : World} {rows : Rows} {nx sz : Nat} {t' : TypeId} {q : PV} {v : Value} {el : List (List DV)} (hm : Mem B β X w rows nx)
    (h : repP rows β w X q v) (hv : srcEl P rows t' sz q = some el) :
    SlStr P t' ∧ ∃ vs : List Value, repss w X sz el vs ∧ (∀ w', (Builtin.lenOf v).run P w' = .ok el.length w') ∧
      ∀ w', w'.heap = w.heap → (Builtin.firstCells sz el.length v).run P w' = .ok vs.toArray w' := by
  unfold srcEl at hv
  split at hv
  · rename_i s
    split at hv
    · rename_i ht
      simp only [Bool.and_eq_true, beq_iff_eq] at ht
      obtain ⟨ht, rfl⟩ := ht
      simp only [Option.some.injEq] at hv; subst hv
      unfold repP rep at h
      subst h
      refine ⟨.inr (tyIs_string ht), _, reps_encB w X s.data.toList, fun w' => ?_, fun w' _ => ?_⟩
      · have : s.size = s.data.toList.length := (Array.length_toList (xs := s.data)).symm
        show (Builtin.lenOf (.string s)).run P w' = _
        simp only [Builtin.lenOf, Sem.run_pure, this, List.length_map]
      · simp only [Builtin.firstCells, Sem.run_pure, List.length_map]
        congr 1
        have : s.extract 0 s.data.toList.length = s := by
          rw [Array.length_toList]; exact ByteArray.extract_zero_size
        rw [this]
        apply Array.toList_inj.1
        simp
    · cases hv
  · rename_i a c
    split at hv
    · rename_i ht
      simp only [Option.some.injEq] at hv; subst hv
      unfold repP rep at h
      subst h
      refine ⟨.inl (tyIs_slice ht), [], by simp [repss], fun w' => by simp [Builtin.lenOf], ?_⟩
      exact firstCells_view (w := w) (by simp) (fun hne => absurd rfl hne)
    · cases hv
  · split at hv
    · rename_i sz' el' hview
      split at hv
      · rename_i ht
        simp only [Bool.and_eq_true, beq_iff_eq] at ht
        obtain ⟨ht, rfl⟩ := ht
        simp only [Option.some.injEq] at hv; subst hv
        obtain ⟨a, cap, vs, h1, h2, h3, h4, h5⟩ := viewOf_ok hm h hview
        subst h1
        exact ⟨.inl (tyIs_slice ht), vs, h4, fun w' => by simp [Builtin.lenOf], firstCells_view (repss_length h4) h5⟩
      · cases hv
    · cases hv

/-- what is appended to -/
def baseEl (rows : Rows) (sz : Nat) (p : PV) : Option (Option Nat × List (List DV)) :=
  match p with
  | .d (.lit (.slice none 0 0)) => some (none, [])
  | .own i => match rows i with | .own sz' el => if sz' = sz then some (some i, el) else none | _ => none
  | .win i 0 m => match rows i with | .own sz' el => if sz' = sz then some (some i, el.take m) else none | _ => none
  | _ => none

def killO (rows : Rows) : Option Nat → Rows
  | none => rows
  | some i => upd rows i .dead

structure BaseOk (β : Nat → Loc) (X : Nat → Prop) (w : World) (rows : Rows) (sz : Nat) (i : Option Nat) (el : List (List DV)) (v : Value) (a : Option Addr) (cap : Nat) : Prop where
  v : v = .slice a el.length cap
  le : el.length ≤ cap
  mx : cap ≤ maxLen
  mem : (cap = 0 ∧ el = []) ∨ ∃ k b cs e fr, i = some k ∧ 0 < cap ∧ a = some ⟨b, 0, none⟩ ∧ X b ∧ rblk (β k) (rows k) = some b ∧ w.heap[b]? = some (.cells cs e fr) ∧ Thaw fr cs.size ∧
    cs.size = cap * sz ∧ repss w X sz el (cs.toList.take (el.length * sz))

theorem baseEl_ok {B : Base} {β : Nat → Loc} {X : Nat → Prop} {w : World} {rows : Rows} {nx sz : Nat} {p : PV} {v : Value} {i : Option Nat} {el : List (List DV)} (hm : Mem B β X w rows nx)
    (h : repP rows β w X p v) (hv : baseEl rows sz p = some (i, el)) : ∃ a cap, BaseOk β X w rows sz i el v a cap := by
  unfold baseEl at hv
  split at hv
  · simp only [Option.some.injEq, Prod.mk.injEq] at hv
    obtain ⟨rfl, rfl⟩ := hv
    unfold repP rep at h
    exact ⟨none, 0, h, by simp, by simp, .inl ⟨rfl, rfl⟩⟩
  · rename_i k
    split at hv
    · rename_i sz' el' hk
      split at hv
      · rename_i hsz
        subst hsz
        simp only [Option.some.injEq, Prod.mk.injEq] at hv
        obtain ⟨rfl, rfl⟩ := hv
        have hrow := hm.ok k
        rw [hk] at hrow
        obtain ⟨r1, r2, r3⟩ := hrow
        unfold repP at h
        have hv := h.1 _ _ hk
        refine ⟨(β k).a, (β k).cap, hv, r1, r2, ?_⟩
        rcases r3 with r3 | ⟨b, cs, e, fr, r3, r4, r5, r6, r7, r8, r9⟩
        · exact .inl r3
        · exact .inr ⟨k, b, cs, e, fr, rfl, r3, r4, r5, by rw [hk]; simp [rblk, r4]; omega, r6, r7, r8, r9⟩
      · cases hv
    · cases hv
  · rename_i k m
    split at hv
    · rename_i sz' el' hk
      split at hv
      · rename_i hsz
        subst hsz
        simp only [Option.some.injEq, Prod.mk.injEq] at hv
        obtain ⟨rfl, rfl⟩ := hv
        have hrow := hm.ok k
        rw [hk] at hrow
        obtain ⟨r1, r2, r3⟩ := hrow
        unfold repP at h
        obtain ⟨hle, hv⟩ := h.1 _ _ hk
        have hlen : (el'.take m).length = m := by simp; omega
        have ha : (if (β k).cap = 0 then (β k).a else (β k).a.map (·.add (0 * sz'))) = (β k).a := by
          split
          · rfl
          · cases (β k).a <;> simp [Addr.add]
        rw [ha, Nat.sub_zero] at hv
        refine ⟨(β k).a, (β k).cap, by rw [hlen]; exact hv, by omega, r2, ?_⟩
        rcases r3 with ⟨r3, rfl⟩ | ⟨b, cs, e, fr, r3, r4, r5, r6, r7, r8, r9⟩
        · exact .inl ⟨r3, by simp⟩
        · refine .inr ⟨k, b, cs, e, fr, rfl, r3, r4, r5, by rw [hk]; simp [rblk, r4]; omega, r6, r7, r8, ?_⟩
          have := repss_take m r9
          rw [List.take_take] at this
          rw [hlen]
          have hmul : m * sz' ≤ el'.length * sz' := Nat.mul_le_mul_right _ (by omega)
          rwa [Nat.min_eq_left hmul] at this
      · cases hv
    · cases hv
  · cases hv

def effApp (nx sz bytes : Nat) (i : Option Nat) (el0 el1 : List (List DV)) : Eff where
  ok := (el0.length + el1.length) * bytes ≤ 140737488355328 ∧ el0.length + el1.length ≤ 9223372036854775807
  val := .own nx
  upds := match i with
    | some i => [(i, .dead), (nx, .own sz (el0 ++ el1))]
    | none => [(nx, .own sz (el0 ++ el1))]
  nn := 1

theorem effApp_after (s : St) (sz bytes : Nat) (i : Option Nat) (el0 el1 : List (List DV)) :
    s.after (effApp s.nx sz bytes i el0 el1) = { s with rows := upd (killO s.rows i) s.nx (.own sz (el0 ++ el1)), nx := s.nx + 1 } := by cases i <;> rfl

/-- cells of a box: what is appended to, and what is appended -/
def baseB (rows : Rows) (p : PV) : Option (Option Nat × List PV) :=
  match p with
  | .d (.lit (.slice none 0 0)) => some (none, [])
  | .own i => match rows i with | .box cells => some (some i, cells) | _ => none
  | _ => none
def srcB (rows : Rows) (q : PV) : Option (List PV) :=
  match q with
  | .own j => match rows j with | .box cells => some cells | _ => none
  | _ => none
def effAppB (nx bytes : Nat) (i : Option Nat) (c0 c1 : List PV) : Eff where
  ok := (c0.length + c1.length) * bytes ≤ 140737488355328 ∧ c0.length + c1.length ≤ 9223372036854775807 ∧ 0 < c1.length
  val := .own nx
  upds := match i with
    | some i => [(i, .dead), (nx, .box (c0 ++ c1))]
    | none => [(nx, .box (c0 ++ c1))]
  nn := 1
theorem effAppB_after (s : St) (bytes : Nat) (i : Option Nat) (c0 c1 : List PV) :
    s.after (effAppB s.nx bytes i c0 c1) = { s with rows := upd (killO s.rows i) s.nx (.box (c0 ++ c1)), nx := s.nx + 1 } := by cases i <;> rfl
def evAppB (s : St) (sz bytes : Nat) (p q : PV) : Option Eff :=
  if sz = 1 then match baseB s.rows p, srcB s.rows q with
    | some (i, c0), some c1 => some (effAppB s.nx bytes i c0 c1)
    | _, _ => none
  else none

def evApp (P : Program) (s : St) (t t' : TypeId) (p q : PV) : Option Eff :=
  match tyOf P t with
  | some ty => match ty.k with
    | .slice e => match tyOf P e with
      | some ety => match ety.zero with
        | some z => if z.cells.size = ety.size then match baseEl s.rows ety.size p, srcEl P s.rows t' ety.size q with
          | some (i, el0), some el1 => some (effApp s.nx ety.size ety.bytes i el0 el1)
          | _, _ => if tyIs P t' TK.isSl then evAppB s ety.size ety.bytes p q else none
          else none
        | none => none
      | none => none
    | _ => none
  | none => none

theorem Mem.killO {B : Base} {β : Nat → Loc} {X : Nat → Prop} {w : World} {rows : Rows} {nx : Nat} (h : Mem B β X w rows nx) (i : Option Nat) : Mem B β X w (killO rows i) nx := by
  cases i with
  | none => exact h
  | some i => exact h.kill i

theorem RowC_killO (rows : Rows) (i : Option Nat) (j : Nat) : RowC (rows j) (killO rows i j) := by
  cases i with
  | none => exact RowC.refl _
  | some i =>
    by_cases hj : j = i
    · subst hj; simp only [killO, upd_same]; cases rows j <;> simp [RowC]
    · simp only [killO, upd_ne _ _ hj]; exact RowC.refl _

theorem repPs_oc {rows : Rows} {β : Nat → Loc} {w : World} {X : Nat → Prop} {S : Nat → Prop} {w' : World} {rows' : Rows} {β' : Nat → Loc} {X' : Nat → Prop} (hk : KeepX w X w' X')
    (hr : ∀ i, S i → RowC (rows i) (rows' i) ∧ (rows' i ≠ .dead → β' i = β i)) {ps qs : List PV} {us vs : List Value} (h1 : repPs rows β w X ps us) (h2 : repPs rows β w X qs vs) (s1 : Scs S ps) (s2 : Scs S qs) :
    repPs rows' β' w' X' (ps ++ qs) (us ++ vs) := repPs_append (repPs_mono hk hr ps us s1 h1) (repPs_mono hk hr qs vs s2 h2)

set_option maxHeartbeats 1000000 in
theorem op_appendB {P : Program} {o : Oper} {s : St} {t t' : TypeId} {x y : Operand} {et : TypeId} {ety : Ty} {z : Value} {ty : Ty} {e : Eff} (ho : o.op = .call { callee := .builtin .append, args := #[x, y], argTypes := #[t, t'] })
    (hu : P.underlying t = some (.slice et)) (he : tyOf P et = some ety) (hz : ety.zero = some z) (hzs : z.cells.size = ety.size) (hsl : SlStr P t')
    (h : evAppB s ety.size ety.bytes (ev s.regs x) (ev s.regs y) = some e) : OpSound P o s e := by
  unfold evAppB at h
  split at h
  · rename_i hs1
    split at h
    · rename_i i c0 c1 hb hs
      simp only [Option.some.injEq] at h; subst h
      intro B β X w a hr hok
      obtain ⟨hok1, hok2, hok3⟩ := hok
      -- the source
      obtain ⟨j, hyj, hrj⟩ : ∃ j, ev s.regs y = .own j ∧ s.rows j = .box c1 := by
        unfold srcB at hs
        split at hs
        · rename_i j hy
          split at hs
          · rename_i cells hrj
            simp only [Option.some.injEq] at hs; subst hs
            exact ⟨j, hy, hrj⟩
          · cases hs
        · cases hs
      have hy1 := (hr.ev y).1
      rw [hyj] at hy1
      unfold repP at hy1
      obtain ⟨hcy, hvy⟩ := hy1.2 c1 hrj
      have hrowj := hr.mem.ok j
      rw [hrj] at hrowj
      obtain ⟨bj, csj, ej, frj, j1, j2, j3, j4, j5, j6, j7, j8⟩ := hrowj
      generalize hvs1 : csj.toList.take c1.length = vs1 at j5 j6
      have hl1 := repPs_length j5
      have hv2 : ∀ w', (Builtin.lenOf (a.eval y)).run P w' = .ok c1.length w' := fun w' => by rw [hvy]; simp [Builtin.lenOf]
      have hv3 : ∀ w', w'.heap = w.heap → (Builtin.firstCells ety.size c1.length (a.eval y)).run P w' = .ok vs1.toArray w' := by
        rw [hvy]
        refine firstCells_view (w := w) (by rw [hl1, hs1, Nat.mul_one]) (fun _ => ⟨bj, 0, j1, fun k u hu => ?_⟩)
        rw [cell_of_heap j3, Nat.zero_add]
        rw [← hvs1, List.getElem?_take] at hu
        split at hu
        · simpa using hu
        · cases hu
      have hsc1 : Scs (· < s.nx) c1 := hr.mem.scr j c1 hrj
      have hm1 := hr.mem.killO i
      have exec : ∀ {v v0 : Value} {w' : World}, a.eval x = v0 → (Builtin.append_ #[t, t'] o.type #[v0, a.eval y]).run P w = .ok v w' → (execOp a.eval o).run P w = .ok (.value v) w' := by
        intro v v0 w' h0 hrun
        simp only [execOp, ho, resolve, invoke, builtin, Sem.run_bind, Sem.run_pure, Result.andThen_ok, List.map_toArray, List.map_cons, List.map_nil, h0, hrun]
      have hx1 := (hr.ev x).1
      show ∃ v w' β' X', _ ∧ SRel B β' X' w' a (s.after _) ∧ repP (s.after _).rows β' w' X' _ v ∧ _
      rw [effAppB_after s ety.bytes i c0 c1]
      -- a new block
      have grow : ∀ (ab : Option Addr) (cap : Nat) (us : List Value), a.eval x = .slice ab c0.length cap → us.length = c0.length → repPs s.rows β w X c0 us → (∀ u ∈ us, oc u = true) → Scs (· < s.nx) c0 →
          (∀ w', w'.heap = w.heap → (Builtin.firstCells ety.size c0.length (.slice ab c0.length cap)).run P w' = .ok us.toArray w') → cap < c0.length + c1.length →
          ∃ v w' β' X', ((execOp a.eval o).run P w = .ok (.value v) w' ∨ ((execOp a.eval o).run P w = .ok .skip w' ∧ v = undef)) ∧
            SRel B β' X' w' a { s with rows := upd (killO s.rows i) s.nx (.box (c0 ++ c1)), nx := s.nx + 1 } ∧
            repP (upd (killO s.rows i) s.nx (.box (c0 ++ c1))) β' w' X' (.own s.nx) v ∧ Sc (· < s.nx + 1) (.own s.nx) := by
        intro ab cap us hv hul hus hus2 hsc0 hold hgt
        obtain ⟨nc, rest, g1, g2, g3, g4⟩ := run_app_grow (ty := o.type) hu he hz hsl ab c0.length cap c1.length (a.eval y) us.toArray vs1.toArray (hv2 w) (hold w.drew rfl) (hv3 w.drew rfl) hgt hok1 hok2
        have hm2 := hm1.drew (w' := w.drew) rfl rfl rfl rfl
        have hC0 : ∀ k, k < s.nx → RowC (s.rows k) (killO s.rows i k) ∧ (killO s.rows i k ≠ .dead → β k = β k) := fun k _ => ⟨RowC_killO _ i _, fun _ => rfl⟩
        have htk : (us.toArray ++ vs1.toArray ++ rest).toList.take (c0 ++ c1).length = us ++ vs1 := by
          simp only [Array.toList_append, List.length_append]
          rw [List.take_append, List.take_of_length_le (by simp; omega)]
          have : (c0.length + c1.length) - (us ++ vs1).length = 0 := by simp; omega
          rw [this]; simp
        obtain ⟨β', q1, _, q2, q3⟩ := hm2.pbox et nc (cs := us.toArray ++ vs1.toArray ++ rest) (ps := c0 ++ c1)
          (by rw [htk]; exact repPs_oc (KeepX.heap (w := w) (w' := w.drew) rfl) hC0 hus j5 hsc0 hsc1)
          (by rw [htk]; exact fun u hu => (List.mem_append.1 hu).elim (hus2 u) (j6 u))
          (Scs.append hsc0 hsc1) (by simp [hul, hl1, g3, hzs, hs1]; omega) g2
        have q2 := q2 (by simpa using g1)
        refine ⟨_, _, β', _, .inl (exec hv g4), hr.of_mem q1 (by omega) fun p u hp hu => ?_, by rw [List.length_append] at q2; exact q2, by show s.nx < s.nx + 1; omega⟩
        exact q3 p u hp (repP_mono (KeepX.heap (w := w) (w' := w.drew) rfl) hC0 p u hp hu)
      unfold baseB at hb
      split at hb
      · rename_i hx
        simp only [Option.some.injEq, Prod.mk.injEq] at hb
        obtain ⟨rfl, rfl⟩ := hb
        rw [hx] at hx1
        unfold repP rep at hx1
        exact grow none 0 [] hx1 rfl (by simp [repPs]) (by simp) trivial (firstCells_view (w := w) (by simp) (fun hne => absurd rfl hne)) (by simpa using hok3)
      · rename_i k hx
        split at hb
        · rename_i cells hrk
          simp only [Option.some.injEq, Prod.mk.injEq] at hb
          obtain ⟨rfl, rfl⟩ := hb
          rw [hx] at hx1
          unfold repP at hx1
          obtain ⟨hcx, hvx⟩ := hx1.2 cells hrk
          have hrow := hr.mem.ok k
          rw [hrk] at hrow
          obtain ⟨b, cs, e, fr, m1, m2, m3, m4, m5, m6, m7, m8⟩ := hrow
          have hl0 := repPs_length m5
          have hsc0 : Scs (· < s.nx) cells := hr.mem.scr k cells hrk
          by_cases hfit : cells.length + c1.length ≤ (β k).cap
          · have hrun := run_app_fits (ty := o.type) hu he hsl (β k).a cells.length (β k).cap c1.length (a.eval y) vs1.toArray (hv2 w) (hv3 w rfl) hfit
            have hlt := (Array.getElem?_eq_some_iff.1 m3).1
            have hst := run_storeCells (P := P) (off := cells.length) vs1 0 cs w m3 (m4.mono (by omega)) (by rw [hl1]; omega) j6
            have hblk : rblk (β k) (s.rows k) = some b := by rw [hrk]; simp [rblk, m1]
            have hkeep : ∀ o', KeepX w X (setBlk w b o') X := fun o' c _ hx => ⟨by
              simp only [setBlk, Array.getElem?_setIfInBounds]; rw [if_neg (fun e => hx (by subst e; exact m2))], hx⟩
            have hCn : ∀ q, q < s.nx → RowC (s.rows q) (upd (killO s.rows (some k)) s.nx (.box (cells ++ c1)) q) ∧ (upd (killO s.rows (some k)) s.nx (.box (cells ++ c1)) q ≠ .dead → upd β s.nx ⟨some ⟨b, 0, none⟩, (β k).cap⟩ q = β q) := fun q hq => by
              rw [upd_ne _ _ (by omega), upd_ne _ _ (by omega)]; exact ⟨RowC_killO _ _ _, fun _ => rfl⟩
            have htk : List.take (cells ++ c1).length (cs.toList.take (cells.length + 0) ++ vs1 ++ cs.toList.drop (cells.length + 0 + vs1.length)) = cs.toList.take cells.length ++ vs1 := by
              simp only [Nat.add_zero, List.length_append]
              rw [List.take_append, List.take_of_length_le (by simp; omega)]
              have : cells.length + c1.length - (cs.toList.take cells.length ++ vs1).length = 0 := by simp at hl0 ⊢; omega
              rw [this]; simp
            have hadopt := hm1.adopt b (.cells (cs.toList.take (cells.length + 0) ++ vs1 ++ cs.toList.drop (cells.length + 0 + vs1.length)).toArray e fr) ⟨some ⟨b, 0, none⟩, (β k).cap⟩ (.box (cells ++ c1))
              m2 hlt (fun q hq => by
                by_cases hqk : q = k
                · subst hqk; simp [killO, upd_same, rblk] at hq
                · simp only [killO, upd_ne _ _ hqk] at hq; exact hqk (hr.mem.inj q k b hq hblk)) (fun h0 => hr.mem.lent k b hblk h0)
              (by
                refine ⟨b, _, e, fr, rfl, m2, setBlk_get hlt, ?_, ?_, ?_, by simp at hl1 ⊢; omega, m8⟩
                · exact ⟨m4.1, fun q hq => m4.2 q (by simp at hq; omega)⟩
                · rw [htk]; exact repPs_oc (hkeep _) hCn m5 j5 hsc0 hsc1
                · rw [htk]; exact fun u hu => (List.mem_append.1 hu).elim (m6 u) (j6 u))
              (by simp [rblk]) (Scs.append hsc0 hsc1)
            refine ⟨.slice (some ⟨b, 0, none⟩) (cells.length + c1.length) (β k).cap, _, _, _, .inl (exec hvx ?_), hr.of_mem hadopt.1 (by omega) fun p u hp hu => repP_mono (hkeep _) hCn p u hp hu, ?_, by show s.nx < s.nx + 1; omega⟩
            · rw [hrun, m1]
              simp only [hs1, Nat.mul_one, Addr.add_lit, Nat.zero_add]
              rw [hst]; rfl
            · unfold repP
              refine ⟨fun sz el hel => (by simp only [upd_same] at hel; cases hel), fun c hc => ?_⟩
              simp only [upd_same] at hc; cases hc
              rw [upd_same, List.length_append]
              exact ⟨hfit, rfl⟩
          · refine grow (β k).a (β k).cap _ hvx hl0 m5 m6 hsc0 (firstCells_view (w := w) (by rw [hl0, hs1, Nat.mul_one]) (fun _ => ⟨b, 0, m1, fun q u hu => ?_⟩)) (by omega)
            rw [cell_of_heap m3, Nat.zero_add]
            rw [List.getElem?_take] at hu
            split at hu
            · simpa using hu
            · cases hu
        · cases hb
      · cases hb
    · cases h
  · cases h

set_option maxHeartbeats 1000000 in
theorem op_append {P : Program} {o : Oper} {s : St} {t t' : TypeId} {x y : Operand} {e : Eff} (ho : o.op = .call { callee := .builtin .append, args := #[x, y], argTypes := #[t, t'] })
    (h : evApp P s t t' (ev s.regs x) (ev s.regs y) = some e) : OpSound P o s e := by
  unfold evApp at h
  split at h
  · rename_i ty ht
    split at h
    · rename_i et hk
      have hu := tyOf_slice ht hk
      split at h
      · rename_i ety he
        split at h
        · rename_i z hz
          split at h
          · rename_i hzs
            split at h
            · rename_i i el0 el1 hb hs
              simp only [Option.some.injEq] at h; subst h
              intro B β X w a hr hok
              obtain ⟨ab, cap, hB⟩ := baseEl_ok hr.mem (hr.ev x).1 hb
              obtain ⟨hsl, vs, hv1, hv2, hv3⟩ := srcEl_ok hr.mem (hr.ev y).1 hs
              have hm1 := hr.mem.killO i
              have exec : ∀ {v : Value} {w' : World}, (Builtin.append_ #[t, t'] o.type #[.slice ab el0.length cap, a.eval y]).run P w = .ok v w' → (execOp a.eval o).run P w = .ok (.value v) w' := by
                intro v w' hrun
                simp only [execOp, ho, resolve, invoke, builtin, Sem.run_bind, Sem.run_pure, Result.andThen_ok, List.map_toArray, List.map_cons, List.map_nil, hB.v, hrun]
              have fin : ∀ {v : Value} {w' : World} {β' : Nat → Loc} {X' : Nat → Prop}, (Builtin.append_ #[t, t'] o.type #[.slice ab el0.length cap, a.eval y]).run P w = .ok v w' →
                  Mem B β' X' w' (upd (killO s.rows i) s.nx (.own ety.size (el0 ++ el1))) (s.nx + 1) → KeepX w X w' X' → (∀ j, j < s.nx → β' j = β j) →
                  v = .slice (β' s.nx).a (el0.length + el1.length) (β' s.nx).cap →
                  ∃ v w' β' X', ((execOp a.eval o).run P w = .ok (.value v) w' ∨ ((execOp a.eval o).run P w = .ok .skip w' ∧ v = undef)) ∧
                    SRel B β' X' w' a { s with rows := upd (killO s.rows i) s.nx (.own ety.size (el0 ++ el1)), nx := s.nx + 1 } ∧
                    repP (upd (killO s.rows i) s.nx (.own ety.size (el0 ++ el1))) β' w' X' (.own s.nx) v ∧ Sc (· < s.nx + 1) (.own s.nx) := by
                intro v w' β' X' hrun hm' hk' hβ hv
                refine ⟨v, w', β', X', .inl (exec hrun), hr.of_mem hm' (by omega) fun p u hp hu => ?_, ?_, by show s.nx < s.nx + 1; omega⟩
                · refine repP_mono hk' (fun j hj => ⟨?_, fun _ => hβ j hj⟩) p u hp hu
                  rw [upd_ne _ _ (by omega)]
                  exact RowC_killO _ _ _
                · unfold repP
                  refine ⟨fun sz el hel => ?_, fun cells hel => (by rw [upd_same] at hel; cases hel)⟩
                  rw [upd_same] at hel
                  cases hel
                  rw [List.length_append]; exact hv
              show ∃ v w' β' X', _ ∧ SRel B β' X' w' a (s.after _) ∧ repP (s.after _).rows β' w' X' _ v ∧ _
              rw [effApp_after s ety.size ety.bytes i el0 el1]
              have hvl := repss_length hv1
              by_cases hfit : el0.length + el1.length ≤ cap
              · have hrun := run_app_fits (ty := o.type) hu he hsl ab el0.length cap el1.length (a.eval y) vs.toArray (hv2 w) (hv3 w rfl) hfit
                rcases hB.mem with ⟨rfl, rfl⟩ | ⟨k, b, cs, e, fr, rfl, m1, m2, m3, m4, m5, m6, m7, m8⟩
                · have h1 : el1 = [] := List.eq_nil_of_length_eq_zero (by omega)
                  subst h1
                  have hvs : vs = [] := List.eq_nil_of_length_eq_zero (by simpa using hvl)
                  subst hvs
                  have hm2 := hm1.new0 ab ety.size
                  refine fin (β' := upd β s.nx ⟨ab, 0⟩) (X' := X) (w' := w) (v := .slice ab 0 0) ?_ hm2 (KeepX.refl _ _) (fun j hj => upd_ne _ _ (by omega)) (by rw [upd_same]; rfl)
                  rw [hrun]
                  cases ab with
                  | none => rfl
                  | some ab => simp [storeCells]
                · subst m2
                  have hlt := (Array.getElem?_eq_some_iff.1 m5).1
                  have hsz : el0.length * ety.size + vs.length ≤ cs.size := by
                    rw [hvl, m7, ← Nat.add_mul]; exact Nat.mul_le_mul_right _ hfit
                  have hst := run_storeCells (P := P) (off := el0.length * ety.size) vs 0 cs w m5 m6 (by simpa using hsz) (repss_oc hv1)
                  have hkeep : ∀ o', KeepX w X (setBlk w b o') X := fun o' c _ hx => ⟨by
                    simp only [setBlk, Array.getElem?_setIfInBounds]; rw [if_neg (fun e => hx (by subst e; exact m3))], hx⟩
                  have hadopt := hm1.adopt b (.cells (cs.toList.take (el0.length * ety.size + 0) ++ vs ++ cs.toList.drop (el0.length * ety.size + 0 + vs.length)).toArray e fr) ⟨some ⟨b, 0, none⟩, cap⟩ (.own ety.size (el0 ++ el1))
                    m3 hlt (fun j hj => by
                      by_cases hjk : j = k
                      · subst hjk; simp [killO, upd_same, rblk] at hj
                      · simp only [killO, upd_ne _ _ hjk] at hj; exact hjk (hr.mem.inj j k b hj m4)) (fun h0 => hr.mem.lent k b m4 h0)
                    (by
                      refine ⟨by rw [List.length_append]; exact hfit, hB.mx, .inr ⟨b, _, e, fr, m1, rfl, m3, setBlk_get hlt, ?_, ?_, ?_⟩⟩
                      · exact ⟨m6.1, fun j hj => m6.2 j (by simp at hj; omega)⟩
                      · simp; omega
                      · have r := repss_mono (hkeep (.cells (cs.toList.take (el0.length * ety.size + 0) ++ vs ++ cs.toList.drop (el0.length * ety.size + 0 + vs.length)).toArray e fr)) _ _ _ (repss_append m8 hv1)
                        simp only [Nat.add_zero, List.length_append] at r ⊢
                        have : List.take ((el0.length + el1.length) * ety.size) (cs.toList.take (el0.length * ety.size) ++ vs ++ cs.toList.drop (el0.length * ety.size + vs.length)) = cs.toList.take (el0.length * ety.size) ++ vs := by
                          rw [List.take_append, List.take_of_length_le (by simp [Nat.add_mul]; omega)]
                          have : (el0.length + el1.length) * ety.size - (cs.toList.take (el0.length * ety.size) ++ vs).length = 0 := by
                            simp [Nat.add_mul]; omega
                          rw [this]; simp
                        rw [this]; exact r)
                    (by simp [rblk]; omega) trivial
                  refine fin (β' := upd β s.nx ⟨some ⟨b, 0, none⟩, cap⟩) (v := .slice (some ⟨b, 0, none⟩) (el0.length + el1.length) cap) ?_ hadopt.1 hadopt.2 (fun j hj => upd_ne _ _ (by omega)) (by rw [upd_same])
                  rw [hrun]
                  simp only [Addr.add_lit, Nat.zero_add]
                  rw [hst]; rfl
              · have hold : ∃ olds : List Value, (∀ w', w'.heap = w.heap → (Builtin.firstCells ety.size el0.length (.slice ab el0.length cap)).run P w' = .ok olds.toArray w') ∧ repss w X ety.size el0 olds := by
                  rcases hB.mem with ⟨rfl, rfl⟩ | ⟨k, b, cs, e, fr, rfl, m1, m2, m3, m4, m5, m6, m7, m8⟩
                  · exact ⟨[], firstCells_view (w := w) (by simp) (fun hne => absurd rfl hne), by simp [repss]⟩
                  · refine ⟨_, firstCells_view (w := w) (repss_length m8) (fun _ => ⟨b, 0, m2, fun j u hu => ?_⟩), m8⟩
                    rw [cell_of_heap m5, Nat.zero_add]
                    rw [List.getElem?_take] at hu
                    split at hu
                    · simpa using hu
                    · cases hu
                obtain ⟨olds, ho1, ho2⟩ := hold
                obtain ⟨nc, rest, g1, g2, g3, g4⟩ := run_app_grow (ty := o.type) hu he hz hsl ab el0.length cap el1.length (a.eval y) olds.toArray vs.toArray (hv2 w) (ho1 w.drew rfl) (hv3 w.drew rfl) (by omega) hok.1 hok.2
                have hm2 := hm1.drew (w' := w.drew) rfl rfl rfl rfl
                have hol := repss_length ho2
                have r := repss_append ho2 hv1
                obtain ⟨β', q1, q2, q3⟩ := hm2.row et (cs := olds.toArray ++ vs.toArray ++ rest) (sz := ety.size) (cap := nc) (el := el0 ++ el1)
                  (by
                    have : (olds.toArray ++ vs.toArray ++ rest).toList.take ((el0 ++ el1).length * ety.size) = olds ++ vs := by
                      simp only [Array.toList_append, List.length_append]
                      rw [List.take_append, List.take_of_length_le (by simp [Nat.add_mul]; omega)]
                      have : (el0.length + el1.length) * ety.size - (olds ++ vs).length = 0 := by simp [Nat.add_mul]; omega
                      rw [this]; simp
                    rw [this]; exact repss_mono (KeepX.heap (w := w) (w' := w.drew) rfl) _ _ _ r)
                  (by simpa using g1)
                  (by
                    simp only [Array.size_append, List.size_toArray, hol, hvl, g3, hzs, ← Nat.add_mul]
                    congr 1; omega) g2
                have hq : repP (upd (killO s.rows i) s.nx (.own ety.size (el0 ++ el1))) β' (wpush w.drew (.cells (olds.toArray ++ vs.toArray ++ rest) et)) (fun b => X b ∨ b = w.drew.heap.size) (.own s.nx) (.slice (some ⟨w.heap.size, 0, none⟩) (el0 ++ el1).length nc) := q2
                refine ⟨_, _, β', _, .inl (exec g4), hr.of_mem q1 (by omega) fun p u hp hu => ?_, by rw [List.length_append] at hq; exact hq, by show s.nx < s.nx + 1; omega⟩
                refine q3 p u hp (repP_mono (KeepX.heap (w := w) (w' := w.drew) rfl) (fun j hj => ⟨RowC_killO _ i _, fun _ => rfl⟩) p u hp hu)
            · split at h
              · rename_i ht'
                exact op_appendB (ty := ty) ho hu he hz hzs (.inl (tyIs_slice ht')) h
              · cases h
          · cases h
        · cases h
      · cases h
    · cases h
  · cases h
end Go.AM

namespace Go.AM
open Go

/-! ## make([]T, 0, c) and make([]T, n) -/
def litsOf (z : Array Value) (k : Nat) : List (List DV) := List.replicate k (z.toList.map .lit)

/-- the row of what is made: cells of their own where they are slices -/
def makeRow (ety : Ty) (z : Value) (l : Nat) : Option Row :=
  match z with
  | .slice none 0 0 => if ety.size = 1 then some (.box (List.replicate l (.d (.lit (.slice none 0 0))))) else none
  | z => if z.cells.size = ety.size ∧ z.cells.toList.all oc = true then some (.own ety.size (litsOf z.cells l)) else none

theorem makeRow_cases {ety : Ty} {z : Value} {l : Nat} {r : Row} (h : makeRow ety z l = some r) :
    (z = .slice none 0 0 ∧ ety.size = 1 ∧ r = .box (List.replicate l (.d (.lit (.slice none 0 0))))) ∨ (z.cells.size = ety.size ∧ z.cells.toList.all oc = true ∧ r = .own ety.size (litsOf z.cells l)) := by
  unfold makeRow at h
  split at h
  · split at h
    · rename_i hc; simp only [Option.some.injEq] at h; exact .inl ⟨rfl, hc, h.symm⟩
    · cases h
  · split at h
    · rename_i hc; simp only [Option.some.injEq] at h; exact .inr ⟨hc.1, hc.2, h.symm⟩
    · cases h

def evMake (P : Program) (s : St) (t : TypeId) (p q : PV) : Option Eff :=
  match p with
  | .d (.lit (.int _ l)) => match q with
    | .d (.lit (.int _ c)) => match tyOf P t with
      | some ty => match ty.k with
        | .slice e => match tyOf P e with
          | some ety => match ety.zero with
            | some z => match makeRow ety z l.toNat with
              | some r => some (effNew r s.nx (.own s.nx) (0 ≤ l ∧ l ≤ c ∧ c ≤ 9223372036854775807 ∧ (ety.bytes : Int) * c ≤ 281474976710656))
              | none => none
            | none => none
          | none => none
        | _ => none
      | none => none
    | _ => none
  | _ => none

theorem madeCells_take (z : Array Value) (n l : Nat) (hl : l ≤ n) : (madeCells z (n * z.size)).toList.take (l * z.size) = (List.replicate l z.toList).flatten := by
  induction l with
  | zero => simp
  | succ l ih =>
    have h1 := ih (by omega)
    rw [List.replicate_succ', List.flatten_append, ← h1]
    simp only [List.flatten_cons, List.flatten_nil, List.append_nil]
    rw [Nat.add_mul, Nat.one_mul, List.take_add]
    congr 1
    apply List.ext_getElem?
    intro i
    rw [List.getElem?_take]
    have hmul : (l + 1) * z.size ≤ n * z.size := Nat.mul_le_mul_right _ hl
    rw [Nat.add_mul, Nat.one_mul] at hmul
    by_cases hi : i < z.size
    · rw [if_pos hi, List.getElem?_drop]
      simp only [madeCells, Array.getElem?_toList, Array.getElem?_map]
      have hlt : l * z.size + i < n * z.size := by omega
      rw [Array.getElem?_range, if_pos hlt]
      simp only [Option.map_some]
      rw [Nat.mul_comm l, Nat.mul_add_mod, Nat.mod_eq_of_lt hi]
      simp [hi]
    · rw [if_neg hi]; simp; omega


theorem repss_lits (w : World) (X : Nat → Prop) (z : List Value) (hz : z.all oc = true) : ∀ k, repss w X z.length (List.replicate k (z.map .lit)) (List.replicate k z).flatten
  | 0 => by simp [repss]
  | k + 1 => by
    rw [List.replicate_succ, List.replicate_succ, List.flatten_cons]
    unfold repss
    exact ⟨z, _, rfl, rfl, reps_lits w X z hz, repss_lits w X z hz k⟩

theorem op_make {P : Program} {o : Oper} {s : St} {t : TypeId} {x y : Operand} {e : Eff} (ho : o.op = .makeSlice t x y) (h : evMake P s t (ev s.regs x) (ev s.regs y) = some e) : OpSound P o s e := by
  unfold evMake at h
  split at h
  · rename_i k1 l hx
    split at h
    · rename_i k2 c hy
      split at h
      · rename_i ty ht
        split at h
        · rename_i et hk
          have hu := tyOf_slice ht hk
          split at h
          · rename_i ety he
            split at h
            · rename_i z hz
              split at h
              · rename_i r hmr
                rcases makeRow_cases hmr with ⟨rfl, hc, rfl⟩ | ⟨hc1, hc2, rfl⟩
                simp only [Option.some.injEq] at h; subst h
                intro B β X w a hr hok
                obtain ⟨h1, h2, h3, h4⟩ := hok
                obtain ⟨i, u, q1, q2, q3, q4, q5, q6⟩ := tyOf_spec he
                have hi : i.zero = some (.slice none 0 0) := by rw [← q6]; exact hz
                have hmake := run_make (P := P) w t et i _ hu q1 hi k1 k2 l c h1 h2 (by rw [← q5]; exact h4) h3
                have hi1 : i.size = 1 := by rw [← q4]; exact hc
                have hcz : (Value.slice none 0 0).cells = #[.slice none 0 0] := rfl
                have hszc : (madeCells (Value.slice none 0 0).cells (c.toNat * i.size)).size = c.toNat := by rw [size_madeCells, hi1, Nat.mul_one]
                have htk : (madeCells (Value.slice none 0 0).cells (c.toNat * i.size)).toList.take l.toNat = List.replicate l.toNat (.slice none 0 0) := by
                  have := madeCells_take (Value.slice none 0 0).cells c.toNat l.toNat (by omega)
                  rw [hcz] at this ⊢
                  rw [hi1]
                  simp only [List.size_toArray, List.length_cons, List.length_nil, Nat.zero_add, Nat.mul_one] at this ⊢
                  rw [this]
                  generalize l.toNat = n
                  induction n with
                  | zero => rfl
                  | succ n ih => rw [List.replicate_succ, List.flatten_cons, ih, List.replicate_succ]; rfl
                have hrp : ∀ n, repPs s.rows β w X (List.replicate n (.d (.lit (.slice none 0 0)))) (List.replicate n (.slice none 0 0)) := fun n => by
                  induction n with
                  | zero => simp [repPs]
                  | succ n ih => rw [List.replicate_succ, List.replicate_succ]; unfold repPs; exact ⟨_, _, rfl, by unfold repP rep; rfl, ih⟩
                have hsc : Scs (· < s.nx) (List.replicate l.toNat (.d (.lit (.slice none 0 0)))) := Scs.of_mem fun p hp => by rw [(List.mem_replicate.1 hp).2]; trivial
                have hln : (List.replicate l.toNat (PV.d (.lit (.slice none 0 0)))).length = l.toNat := List.length_replicate
                obtain ⟨β', m1, _, m2, m3⟩ := hr.mem.pbox et c.toNat (cs := madeCells (Value.slice none 0 0).cells (c.toNat * i.size)) (ps := List.replicate l.toNat (.d (.lit (.slice none 0 0))))
                  (by rw [hln, htk]; exact hrp _) (by rw [hln, htk]; intro u hu; rw [(List.mem_replicate.1 hu).2]; rfl) hsc (by rw [hszc]; exact Nat.le_refl _) (by unfold maxLen; omega)
                have m2 := m2 (by rw [hln]; omega)
                rw [hln] at m2
                refine ⟨_, _, β', _, .inl ?_, hr.of_mem m1 (by omega) m3, m2, by show s.nx < s.nx + 1; omega⟩
                simp only [execOp, ho, hr.lit hx, hr.lit hy, Sem.run_bind, hmake, Result.andThen_ok, Sem.run_pure]
                rfl
                have hc : z.cells.size = ety.size ∧ z.cells.toList.all oc = true := ⟨hc1, hc2⟩
                simp only [Option.some.injEq] at h; subst h
                intro B β X w a hr hok
                obtain ⟨h1, h2, h3, h4⟩ := hok
                obtain ⟨i, u, q1, q2, q3, q4, q5, q6⟩ := tyOf_spec he
                have hi : i.zero = some z := by rw [← q6]; exact hz
                have hmake := run_make (P := P) w t et i z hu q1 hi k1 k2 l c h1 h2 (by rw [← q5]; exact h4) h3
                have hsz : (madeCells z.cells (c.toNat * i.size)).size = c.toNat * ety.size := by rw [size_madeCells, q4]
                have hlen : (litsOf z.cells l.toNat).length = l.toNat := by simp [litsOf]
                obtain ⟨β', m1, m2, m3⟩ := hr.mem.row et (cs := madeCells z.cells (c.toNat * i.size)) (sz := ety.size) (cap := c.toNat) (el := litsOf z.cells l.toNat)
                  (by
                    rw [hlen, ← q4, ← hc.1, madeCells_take z.cells c.toNat l.toNat (by omega)]
                    have := repss_lits w X z.cells.toList hc.2 l.toNat
                    simpa [litsOf] using this)
                  (by rw [hlen]; omega) hsz (by unfold maxLen; omega)
                rw [hlen] at m2
                refine ⟨_, _, β', _, .inl ?_, hr.of_mem m1 (by omega) m3, m2, by show s.nx < s.nx + 1; omega⟩
                simp only [execOp, ho, hr.lit hx, hr.lit hy, Sem.run_bind, hmake, Result.andThen_ok, Sem.run_pure]
                rfl
              · cases h
            · cases h
          · cases h
        · cases h
      · cases h
    · cases h
  · cases h

/-! ## []byte of []byte: what was a text -/
def evConvId (P : Program) (rows : Rows) (src dst : TypeId) (p : PV) : Option PV :=
  match p with
  | .own i => match rows i with
    | .own sz (_ :: _) => if sz = 1 ∧ src = dst ∧ isBytes P src = true then some (.own i) else none
    | _ => none
  | _ => none

theorem World.freeze_cells {w : World} {b : Nat} {cs : Array Value} {e : TypeId} {fr : Nat × Nat} (h : w.heap[b]? = some (.cells cs e fr)) (n : Nat) :
    w.freeze ⟨b, n, none⟩ 1 = setBlk w b (.cells cs e (if fr.1 == fr.2 then (n, n + 1) else (min fr.1 n, max fr.2 (n + 1)))) := by
  have hlt := (Array.getElem?_eq_some_iff.1 h).1
  have hg := (Array.getElem?_eq_some_iff.1 h).2
  unfold World.freeze setBlk
  rw [if_neg (by omega)]
  congr 1
  apply Array.ext_getElem?
  intro i
  rw [Array.getElem?_modify, Array.getElem?_setIfInBounds]
  split
  · rename_i hi
    subst hi
    rw [h]
    obtain ⟨lo, hi⟩ := fr
    simp [hlt]
  · rfl

theorem op_convId {P : Program} {o : Oper} {s : St} {src dst : TypeId} {x : Operand} {q : PV} (ho : o.op = .convert src dst x) (h : evConvId P s.rows src dst (ev s.regs x) = some q) :
    OpSound P o s (Eff.pureIf True q) := by
  unfold evConvId at h
  split at h
  · rename_i i hx
    split at h
    · rename_i sz e0 el hrow
      split at h
      · rename_i hc
        obtain ⟨rfl, rfl, hb⟩ := hc
        simp only [Option.some.injEq] at h; subst h
        intro B β X w a hr _
        obtain ⟨et, h1, h2⟩ := isBytes_spec hb
        have hv := (hr.ev x).1
        rw [hx] at hv
        have hv0 := hv
        unfold repP at hv
        have hv := hv.1 _ _ hrow
        have hrk := hr.mem.ok i
        rw [hrow] at hrk
        obtain ⟨g1, g2, g3⟩ := hrk
        rcases g3 with ⟨g3, g4⟩ | ⟨b, cs, e, fr, c1, c2, c3, c4, c5, c6, c7⟩
        · cases g4
        · have hlt := (Array.getElem?_eq_some_iff.1 c4).1
          let fr' : Nat × Nat := if fr.1 == fr.2 then (cs.size, cs.size + 1) else (min fr.1 cs.size, max fr.2 (cs.size + 1))
          have hfr : Thaw fr' cs.size := by
            have hle := c5.1
            refine ⟨by
              by_cases hz : (fr.1 == fr.2) = true
              · simp only [fr', hz, if_true]; omega
              · simp only [fr', hz]; show min fr.1 cs.size ≤ max fr.2 (cs.size + 1); omega, fun j hj hh => ?_⟩
            by_cases hz : (fr.1 == fr.2) = true
            · simp only [fr', hz, if_true] at hh; omega
            · simp only [fr', hz] at hh
              have hne : fr.1 ≠ fr.2 := by simpa using hz
              have := c5.2 j hj
              have h5 := c5.2 fr.1
              have hh' : min fr.1 cs.size ≤ j ∧ j < max fr.2 (cs.size + 1) := by simpa using hh
              omega
          have hW := Mem.write (w' := setBlk w b (.cells cs e fr')) hr.mem i b (.cells cs e fr') (.own 1 (e0 :: el)) (by rw [hrow]; simp [rblk, c2]; omega) rfl rfl rfl rfl (by rw [hrow]; exact ⟨rfl, rfl⟩)
            (fun c hcc => by simp [rblk, c2] at hcc; exact hcc.2.symm) (fun hC hK => ?_) trivial
          · obtain ⟨k1, k2, k3⟩ := hW
            have hrows : upd s.rows i (.own 1 (e0 :: el)) = s.rows := by
              funext j; simp only [upd]; split
              · rename_i hj; subst hj; exact hrow.symm
              · rfl
            rw [hrows] at k1 k3
            refine ⟨a.eval x, _, β, X, .inl ?_, ⟨k1, hr.defers, hr.size, hr.kl, fun t => repP_mono k2 k3 _ _ (hr.sc t) (hr.rg t), hr.sc⟩, ?_, ?_⟩
            · have hsh : w.shape? b = some (e, cs.size) := by simp [World.shape?, c4]
              have hrun : (convert src src (a.eval x)).run P w = .ok (a.eval x) (setBlk w b (.cells cs e fr')) := by
                rw [hv, c2]
                simp only [convert, Sem.run_bind, run_underlying h1, Result.andThen_ok, run_underlying h2, BEq.rfl, markStringish, run_shape, hsh, run_freeze, World.freeze_cells c4]
                rfl
              simp only [execOp, ho, Sem.run_bind, hrun, Result.andThen_ok, Sem.run_pure]
            · exact repP_mono k2 k3 (.own i) _ (by have := (hr.ev x).2; rw [hx] at this; exact this) hv0
            · have := (hr.ev x).2; rw [hx] at this; exact this
          · refine ⟨g1, g2, .inr ⟨b, cs, e, fr', c1, c2, c3, setBlk_get hlt, hfr, c6, repss_mono hK 1 _ _ c7⟩⟩
      · cases h
    · cases h
  · cases h
end Go.AM
