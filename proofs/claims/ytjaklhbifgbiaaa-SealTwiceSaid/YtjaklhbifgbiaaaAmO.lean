/- Proved here: a part of an abstract machine for the walks of this program, and that it tells the truth about the model. No condition. -/
import Derived.Test.YtjaklhbifgbiaaaAmNa
set_option linter.unusedSimpArgs false
set_option linter.unusedVariables false
namespace Go.AM
open Go

/-- the operations that the machine knows, but for calls of Go functions -/
def evOp (P : Program) (o : Oper) (s : St) : Option Eff :=
  match o.op with
  | .move x => some (Eff.pureIf True (ev s.regs x))
  | .assign x => some (Eff.pureIf True (ev s.regs x))
  | .pick c x y => match ev s.regs c with
    | .d (.lit (.bool t)) => some (Eff.pureIf True (if t then ev s.regs x else ev s.regs y))
    | _ => none
  | .alloc t => evAlloc P s t
  | .box _ x => evBox s (ev s.regs x)
  | .build t parts => (evBuild P s t (parts.toList.map fun x => (x.1, ev s.regs x.2))).map (Eff.pureIf True)
  | .buildSlice t n parts => evBS P s t n (parts.toList.map fun x => (x.1, ev s.regs x.2))
  | .load t x => (evLoad P s.rows t (ev s.regs x)).map (Eff.pureIf True)
  | .store t x y => (evStore P s.rows t (ev s.regs x) (ev s.regs y)).map fun r => effSet r.1 r.2
  | .nilCheck x => (evNil s.rows (ev s.regs x)).map (Eff.pureIf True)
  | .binOp op t x y _ => (evBinP P op t s.rows (ev s.regs x) (ev s.regs y)).map fun r => Eff.pureIf r.1 r.2
  | .unOp op _ x => match ev s.regs x with
    | .d (.lit u) => (evUn op u).map fun v => Eff.pureIf True (.d (.lit v))
    | _ => none
  | .convert a b x => match evConv P s.rows a b (ev s.regs x) with
    | some q => some (Eff.pureIf True q)
    | none => (evConvId P s.rows a b (ev s.regs x)).map (Eff.pureIf True)
  | .makeSlice t x y => evMake P s t (ev s.regs x) (ev s.regs y)
  | .makeInterface t x => if notIface P t then some (Eff.pureIf True (.ifc t (ev s.regs x))) else none
  | .makeFunc fn f c => some (Eff.pureIf True (.clo fn (f.toList.map (ev s.regs)) (c.toList.map (ev s.regs))))
  | .slice t x lo hi mx => match mx, bdV s.regs lo, bdV s.regs hi with
    | none, some l, some h => (evSl P s.rows t (ev s.regs x) l h).map fun r => Eff.pureIf r.1 r.2
    | _, _, _ => none
  | .fieldAddr t x f => (evField P s.rows t (ev s.regs x) f).map (Eff.pureIf True)
  | .indexAddr t x y => match ev s.regs y with
    | .d (.lit (.int _ n)) => (evIdx P s.rows t (ev s.regs x) n).map fun r => Eff.pureIf r.1 r.2
    | _ => none
  | .index t x y => match ev s.regs x, ev s.regs y with
    | .d (.lit (.string str)), .d (.lit (.int _ n)) => if tyIs P t TK.isStr then some (Eff.pureIf (0 ≤ n ∧ n < str.size) (.d (.lit (.int .u8 (str.data.toList.getD n.toNat 0).toNat)))) else none
    | _, _ => none
  | .extract x i => (evExtract (ev s.regs x) i).map (Eff.pureIf True)
  | .call c => match c.callee, c.args.toList, c.argTypes.toList with
    | .builtin .len, [x], [t] => (evLen P s.rows t (ev s.regs x)).map fun n => Eff.pureIf True (.d (.lit (.int .i64 n)))
    | .builtin .min, [x, y], _ => match ev s.regs x, ev s.regs y with
      | .d (.lit (.int k m)), .d (.lit (.int _ n)) => some (Eff.pureIf True (.d (.lit (.int k (if n < m then n else m)))))
      | _, _ => none
    | .builtin .max, [x, y], _ => match ev s.regs x, ev s.regs y with
      | .d (.lit (.int k m)), .d (.lit (.int _ n)) => some (Eff.pureIf True (.d (.lit (.int k (if m < n then n else m)))))
      | _, _ => none
    | .builtin .append, [x, y], [t, t'] => evApp P s t t' (ev s.regs x) (ev s.regs y)
    | _, _, _ => none
  | _ => none

theorem toList_eq {α : Type} {a : Array α} {l : List α} (h : a.toList = l) : a = l.toArray := by rw [← h]

theorem evOp_sound {P : Program} {o : Oper} {s : St} {e : Eff} (h : evOp P o s = some e) : OpSound P o s e := by
  unfold evOp at h
  split at h
  · rename_i x ho; simp only [Option.some.injEq] at h; subst h; exact op_move (.inl ho)
  · rename_i x ho; simp only [Option.some.injEq] at h; subst h; exact op_move (.inr ho)
  · rename_i c x y ho
    split at h
    · rename_i t hc; simp only [Option.some.injEq] at h; subst h; exact op_pick ho hc
    · cases h
  · rename_i t ho; exact evAlloc_ok ho h
  · rename_i t x ho; exact evBox_ok ho h
  · rename_i t parts ho
    simp only [Option.map_eq_some_iff] at h
    obtain ⟨q, h1, rfl⟩ := h
    exact evBuild_ok ho h1
  · rename_i t n parts ho; exact op_buildSlice ho h
  · rename_i t x ho
    simp only [Option.map_eq_some_iff] at h
    obtain ⟨q, h1, rfl⟩ := h
    exact op_load ho h1
  · rename_i t x y ho
    simp only [Option.map_eq_some_iff] at h
    obtain ⟨⟨i, r⟩, h1, rfl⟩ := h
    exact op_store ho h1
  · rename_i x ho
    simp only [Option.map_eq_some_iff] at h
    obtain ⟨q, h1, rfl⟩ := h
    exact op_nil ho h1
  · rename_i op t x y t' ho
    simp only [Option.map_eq_some_iff] at h
    obtain ⟨⟨c, q⟩, h1, rfl⟩ := h
    exact op_bin ho h1
  · rename_i op t x ho
    split at h
    · rename_i u hu
      simp only [Option.map_eq_some_iff] at h
      obtain ⟨q, h1, rfl⟩ := h
      exact op_un ho hu h1
    · cases h
  · rename_i a b x ho
    split at h
    · rename_i q hq
      simp only [Option.some.injEq] at h; subst h
      exact op_convert ho hq
    · simp only [Option.map_eq_some_iff] at h
      obtain ⟨q, h1, rfl⟩ := h
      exact op_convId ho h1
  · rename_i t x y ho; exact op_make ho h
  · rename_i t x ho
    split at h
    · rename_i hn; simp only [Option.some.injEq] at h; subst h; exact op_makeInterface ho hn
    · cases h
  · rename_i fn f c ho; simp only [Option.some.injEq] at h; subst h; exact op_makeFunc ho
  · rename_i t x lo hi mx ho
    split at h
    · rename_i l h' hl hh
      simp only [Option.map_eq_some_iff] at h
      obtain ⟨⟨c, q⟩, h1, rfl⟩ := h
      exact op_slice ho hl hh h1
    · cases h
  · rename_i t x f ho
    simp only [Option.map_eq_some_iff] at h
    obtain ⟨q, h1, rfl⟩ := h
    exact op_fieldAddr ho h1
  · rename_i t x y ho
    split at h
    · rename_i k n hy
      simp only [Option.map_eq_some_iff] at h
      obtain ⟨⟨c, q⟩, h1, rfl⟩ := h
      exact op_indexAddr ho hy h1
    · cases h
  · rename_i t x y ho
    split at h
    · rename_i str k n hx hy
      split at h
      · rename_i ht; simp only [Option.some.injEq] at h; subst h; exact op_index ho hx hy ht
      · cases h
    · cases h
  · rename_i x i ho
    simp only [Option.map_eq_some_iff] at h
    obtain ⟨q, h1, rfl⟩ := h
    exact op_extract ho h1
  · rename_i c ho
    obtain ⟨callee, args, argTypes⟩ := c
    split at h
    · rename_i x t h1 h2 h3
      simp only at h1 h2 h3
      obtain rfl := toList_eq h2
      obtain rfl := toList_eq h3
      subst h1
      simp only [Option.map_eq_some_iff] at h
      obtain ⟨q, h1, rfl⟩ := h
      exact op_len ho h1
    · rename_i x y h1 h2
      simp only at h1 h2
      obtain rfl := toList_eq h2
      subst h1
      split at h
      · rename_i k m k' n hx hy
        simp only [Option.some.injEq] at h; subst h
        exact op_min ho hx hy
      · cases h
    · rename_i x y h1 h2
      simp only at h1 h2
      obtain rfl := toList_eq h2
      subst h1
      split at h
      · rename_i k m k' n hx hy
        simp only [Option.some.injEq] at h; subst h
        exact op_max ho hx hy
      · cases h
    · rename_i x y t t' h1 h2 h3
      simp only at h1 h2 h3
      obtain rfl := toList_eq h2
      obtain rfl := toList_eq h3
      subst h1
      exact op_append ho h
    · cases h
  · cases h

/-! ## calls -/
/-- a call in the caller's own numbers -/
def ACall (P : Program) (f : FuncId) (ps : List PV) (rows : Rows) (nx : Nat) (K : PV → Rows → Nat → Prop) : Prop :=
  ∀ B β X w vs, Mem B β X w rows nx → repPs rows β w X ps vs → Scs (· < nx) ps →
    Calls P f vs.toArray w fun e w' => ∃ v r rows' nx' β' X', e = .returned v ∧ K r rows' nx' ∧ Mem B β' X' w' rows' nx' ∧ repP rows' β' w' X' r v ∧ Sc (· < nx') r ∧ nx ≤ nx' ∧
      ∀ p u, Sc (· < nx) p → repP rows β w X p u → repP rows' β' w' X' p u

theorem ACall.mono {P : Program} {f : FuncId} {ps : List PV} {rows : Rows} {nx : Nat} {K K' : PV → Rows → Nat → Prop} (h : ACall P f ps rows nx K) (hk : ∀ r rows' nx', K r rows' nx' → K' r rows' nx') :
    ACall P f ps rows nx K' := fun B β X w vs hm hp hs =>
  (h B β X w vs hm hp hs).mono fun _ _ ⟨v, r, rows', nx', β', X', h1, h2, h3⟩ => ⟨v, r, rows', nx', β', X', h1, hk _ _ _ h2, h3⟩

def isFn (P : Program) (f : FuncId) : Bool := match P.funcs[f]? with | some fn => fn.name != "runtime.NumGoroutine" && fn.body.isSome | none => false

theorem callFunc_enter {P : Program} {f : FuncId} {args : Array Value} {w : World} (h : isFn P f = true) : (callFunc f args).run P w = .ok (.enter f args) w := by
  unfold isFn at h
  split at h
  · rename_i fn hf
    simp only [Bool.and_eq_true, bne_iff_ne, ne_eq] at h
    cases hb : fn.body with
    | none => simp [hb] at h
    | some c => simp [callFunc, program, Sem.run, hf, h.1, hb]
  · cases h

/-- the function that a call calls, and what it hands over -/
def calleeOf (s : St) (c : Call) : Option (FuncId × List PV) :=
  match c.callee with
  | .value x => match ev s.regs x with
    | .clo (.func f) first cap => some (f, first ++ c.args.toList.map (ev s.regs) ++ cap)
    | _ => none
  | _ => none

/-- one operation -/
def aop (P : Program) (o : Oper) (s : St) (K : St → Prop) : Prop :=
  match evOp P o s with
  | some e => e.ok ∧ (∀ d, o.dst = some d → d < s.N) ∧ K ((s.after e).put o.dst e.val)
  | none => match o.op with
    | .call c => match calleeOf s c with
      | some (f, ps) => isFn P f = true ∧ (∀ d, o.dst = some d → d < s.N) ∧ ACall P f ps s.rows s.nx fun r rows' nx' => K ({ s with rows := rows', nx := nx' }.put o.dst r)
      | none => False
    | _ => False

theorem SRel.put {B : Base} {β : Nat → Loc} {X : Nat → Prop} {w : World} {a : Act} {s : St} (h : SRel B β X w a s) {d : Option Nat} {p : PV} {v : Value} (hp : repP s.rows β w X p v) (hs : Sc (· < s.nx) p)
    (hd : ∀ d', d = some d' → d' < s.N) : SRel B β X w (a.put d v) (s.put d p) := by
  cases d with
  | none => exact h
  | some d =>
    have hlt := hd d rfl
    refine ⟨h.mem, h.defers, by simp [Act.put, St.put, h.size], h.kl, fun t => ?_, fun t => ?_⟩
    · simp only [St.put, Act.put]
      by_cases ht : t = d
      · subst ht
        rw [upd_same]
        have : (a.tmps.setIfInBounds t v).getD t undef = v := by
          rw [Array.getD_eq_getD_getElem?, Array.getElem?_setIfInBounds, if_pos rfl, if_pos (by rw [h.size]; exact hlt)]; rfl
        rw [this]; exact hp
      · rw [upd_ne _ _ ht]
        have : (a.tmps.setIfInBounds d v).getD t undef = a.tmps.getD t undef := by
          rw [Array.getD_eq_getD_getElem?, Array.getD_eq_getD_getElem?, Array.getElem?_setIfInBounds, if_neg (Ne.symm ht)]
        rw [this]; exact h.rg t
    · simp only [St.put]
      by_cases ht : t = d
      · subst ht; rw [upd_same]; exact hs
      · rw [upd_ne _ _ ht]; exact h.sc t

theorem aop_sound {P : Program} {o : Oper} {s : St} {K : St → Prop} (h : aop P o s K) {B : Base} {a : Act} {w : World} (hs : Sat B s a w) {K' : Act → World → Prop} {Q : Exit → Act → World → Prop}
    (hK : ∀ s' a' w', K s' → Sat B s' a' w' → K' a' w') : o.wp P a w K' Q := by
  obtain ⟨β, X, hr⟩ := hs
  unfold aop at h
  split at h
  · rename_i e he
    obtain ⟨hok, hd, hk⟩ := h
    obtain ⟨v, w', β', X', h1, h2, h3, h4⟩ := evOp_sound he B β X w a hr hok
    have hput := h2.put (d := o.dst) h3 h4 (fun d hd' => hd d hd')
    unfold Oper.wp
    rcases h1 with h1 | ⟨h1, rfl⟩
    · rw [h1]; exact hK _ _ _ hk ⟨β', X', hput⟩
    · rw [h1]; exact hK _ _ _ hk ⟨β', X', hput⟩
  · split at h
    · rename_i c ho
      split at h
      · rename_i f ps hc
        obtain ⟨hf, hd, hcall⟩ := h
        unfold calleeOf at hc
        split at hc
        · rename_i x hx
          split at hc
          · rename_i f' first cap hev
            simp only [Option.some.injEq, Prod.mk.injEq] at hc
            obtain ⟨rfl, rfl⟩ := hc
            have hxx := hr.ev x
            rw [hev] at hxx
            obtain ⟨hx1, hx2⟩ := hxx
            unfold repP at hx1
            obtain ⟨fs, cs, g1, g2, g3⟩ := hx1
            obtain ⟨e1, e2⟩ := evs_ok hr c.args.toList
            have hargs := repPs_append (repPs_append g2 e1) g3
            have hsc : Scs (· < s.nx) (first ++ c.args.toList.map (AM.ev s.regs) ++ cap) := Scs.append (Scs.append hx2.1 e2) hx2.2
            have hrun : (execOp a.eval o).run P w = .ok (.enter f' (fs ++ c.args.toList.map a.eval ++ cs).toArray) w := by
              have harr : fs.toArray ++ c.args.map a.eval ++ cs.toArray = (fs ++ c.args.toList.map a.eval ++ cs).toArray := by
                apply Array.toList_inj.1; simp
              simp only [execOp, ho, resolve, hx, Deferred.ofValue, g1, Sem.run_bind, Sem.run_pure, Result.andThen_ok, invoke, callFunc_enter hf, harr]
            unfold Oper.wp
            rw [hrun]
            refine (hcall B β X w _ hr.mem hargs hsc).mono fun e w' ⟨v, r, rows', nx', β', X', q1, q2, q3, q4, q5, q6, q7⟩ => ?_
            subst q1
            exact hK _ _ _ q2 ⟨β', X', (hr.of_mem q3 q6 q7).put q4 q5 hd⟩
          · cases hc
        · cases hc
      · exact h.elim
    · exact h.elim

/-- whether a guarded operation is wanted -/
def yieldP (ops : Array Oper) (s : St) (j : Nat) (want : Bool) : Option Bool :=
  match (ops[j]?).bind (·.dst) with
  | some d => match s.regs d with
    | .d (.lit (.bool b)) => if d < s.N then some (b == want) else none
    | .d (.lit (.tuple _)) => if d < s.N then some false else none
    | _ => none
  | none => none

theorem yieldP_ok {ops : Array Oper} {s : St} {o : Oper} {j : Nat} {want t : Bool} {B : Base} {β : Nat → Loc} {X : Nat → Prop} {w : World} {a : Act} (hr : SRel B β X w a s) (hg : o.guard = some (j, want)) (h : yieldP ops s j want = some t) :
    Region.wanted o (yielded ops a.tmps) = t := by
  have hw : Region.wanted o (yielded ops a.tmps) = (yielded ops a.tmps j == some want) := by unfold Region.wanted; rw [hg]
  rw [hw]
  unfold yieldP at h
  split at h
  · rename_i d hd
    have hget : ∀ v, a.tmps.getD d undef = v → d < s.N → a.tmps[d]? = some v := fun v hv hlt => by
      rw [Array.getD_eq_getD_getElem?] at hv
      have hs : d < a.tmps.size := by rw [hr.size]; exact hlt
      rw [Array.getElem?_eq_getElem hs] at hv ⊢
      simpa using hv
    have hreg := hr.rg d
    split at h
    · rename_i b hb
      split at h
      · rename_i hlt
        simp only [Option.some.injEq] at h; subst h
        rw [hb] at hreg
        have h2 : a.tmps.getD d undef = .bool b := by simpa [repP, rep] using hreg
        have h3 := hget _ h2 hlt
        have : yielded ops a.tmps j = some b := by unfold yielded; rw [hd]; simp [h3]
        rw [this]; cases b <;> cases want <;> rfl
      · cases h
    · rename_i u hb
      split at h
      · rename_i hlt
        simp only [Option.some.injEq] at h; subst h
        rw [hb] at hreg
        have h2 : a.tmps.getD d undef = .tuple u := by simpa [repP, rep] using hreg
        have h3 := hget _ h2 hlt
        have : yielded ops a.tmps j = none := by unfold yielded; rw [hd]; simp [h3]
        rw [this]; rfl
      · cases h
    · cases h
  · cases h

/-- what an operation that is passed over leaves -/
def undP : PV := .d (.lit undef)

def aops (P : Program) (ops : Array Oper) (Q : St → Prop) : List Oper → St → Prop
  | [], s => Q s
  | o :: rest, s => match o.guard with
    | none => aop P o s (aops P ops Q rest)
    | some (j, want) => match yieldP ops s j want with
      | some b => if b = true then aop P o s (aops P ops Q rest) else (∀ d, o.dst = some d → d < s.N) ∧ aops P ops Q rest (s.put o.dst undP)
      | none => False

theorem aops_sound {P : Program} {ops : Array Oper} {Q : St → Prop} {B : Base} {Q' : Exit → Act → World → Prop} (hQ : ∀ s a w, Q s → Sat B s a w → Q' .normal a w) : ∀ (l : List Oper) (s : St) (a : Act) (w : World),
    aops P ops Q l s → Sat B s a w → wpList P ops Q' l a w
  | [], s, a, w, h, hs => hQ s a w h hs
  | o :: rest, s, a, w, h, hs => by
    unfold aops at h
    unfold wpList
    split at h
    · rename_i hg
      rw [if_pos (by simp [Region.wanted, hg])]
      exact .inl (aop_sound h hs fun s' a' w' => aops_sound hQ rest s' a' w')
    · rename_i j want hg
      split at h
      · rename_i b hb
        obtain ⟨β, X, hr⟩ := hs
        have hy := yieldP_ok hr hg hb
        split at h
        · rename_i hbw
          subst hbw
          rw [if_pos hy]
          exact .inl (aop_sound h ⟨β, X, hr⟩ fun s' a' w' => aops_sound hQ rest s' a' w')
        · rename_i hbw
          rw [if_neg (by rw [hy]; exact hbw)]
          exact aops_sound hQ rest _ _ _ h.2 ⟨β, X, hr.put (p := undP) (by simp [undP, repP, rep]) trivial h.1⟩
      · exact h.elim

end Go.AM
