/- Proved here: a part of an abstract machine for the walks of this program, and that it tells the truth about the model. No condition. -/
import Derived.Test.YtjaklhbifgbiaaaAmJ
set_option linter.unusedSimpArgs false
set_option linter.unusedVariables false
namespace Go.AM
open Go

/-! ## index -/
def evIdx (P : Program) (rows : Rows) (t : TypeId) (p : PV) (n : Int) : Option (Prop × PV) :=
  match tyOf P t with
  | some ty => match ty.k with
    | .slice e => match tyOf P e with
      | some ety => match p with
        | .d (.sl sz el) => if sz = ety.size then match el[n.toNat]? with
            | some (c :: cs) => some (0 ≤ n, .iptr (c :: cs))
            | _ => none
          else none
        | .own i => match rows i with
          | .own sz el => if sz = ety.size then some (0 ≤ n ∧ n < el.length, .eptr i n.toNat 0) else none
          | _ => none
        | .win i off m => match rows i with
          | .own sz _ => if sz = ety.size then some (0 ≤ n ∧ n < m, .eptr i (off + n.toNat) 0) else none
          | _ => none
        | _ => none
      | none => none
    | .array len e => match tyOf P e with
      | some ety => match p with
        | .ptr i off => if alive (rows i) then some (0 ≤ n ∧ n < len, .ptr i (off + n.toNat * ety.size)) else none
        | .iptr cs => if n.toNat * ety.size < cs.length then some (0 ≤ n ∧ n < len, .iptr (cs.drop (n.toNat * ety.size))) else none
        | _ => none
      | none => none
    | _ => none
  | none => none

theorem run_indexAt_slice {P : Program} {w : World} {t e : TypeId} {ety : Ty} (hu : P.underlying t = some (.slice e)) (he : tyOf P e = some ety) (a : Addr) (len cap : Nat) (k : IntKind) (n : Int) (h0 : 0 ≤ n) (h1 : n < len) :
    (Instr.indexAt t (.slice (some a) len cap) (.int k n)).run P w = .ok (.pointer (some (a.add (n.toNat * ety.size)))) w := by
  simp [Instr.indexAt, asIntOf, run_underlying hu, h0, h1, tyOf_size he]

theorem run_indexAt_array {P : Program} {w : World} {t e : TypeId} {len : Nat} {ety : Ty} (hu : P.underlying t = some (.array len e)) (he : tyOf P e = some ety) (a : Addr) (k : IntKind) (n : Int) (h0 : 0 ≤ n) (h1 : n < len) :
    (Instr.indexAt t (.pointer (some a)) (.int k n)).run P w = .ok (.pointer (some (a.add (n.toNat * ety.size)))) w := by
  simp [Instr.indexAt, Instr.sureAddr, asIntOf, run_underlying hu, h0, h1, tyOf_size he]

set_option maxHeartbeats 1000000 in
theorem op_indexAddr {P : Program} {o : Oper} {s : St} {t : TypeId} {x y : Operand} {k : IntKind} {n : Int} {c : Prop} {q : PV} (ho : o.op = .indexAddr t x y) (hy : ev s.regs y = .d (.lit (.int k n)))
    (h : evIdx P s.rows t (ev s.regs x) n = some (c, q)) : OpSound P o s (Eff.pureIf c q) := by
  unfold evIdx at h
  split at h
  · rename_i ty ht
    split at h
    · rename_i e hk
      have hu := tyOf_slice ht hk
      split at h
      · rename_i ety he
        split at h
        · rename_i sz el hx
          split at h
          · rename_i hsz
            subst hsz
            split at h
            · rename_i d ds hd
              simp only [Option.some.injEq, Prod.mk.injEq] at h
              obtain ⟨rfl, rfl⟩ := h
              refine sound_pure fun B β X w a hr hc => ?_
              have hxx := (hr.ev x).1
              rw [hx] at hxx
              unfold repP rep at hxx
              obtain ⟨ad, cap, vs, h1, h2, h3, h4, h5⟩ := hxx
              obtain ⟨g1, g2, g3⟩ := repss_get h4 n.toNat _ hd
              have hlen : n.toNat < el.length := (List.getElem?_eq_some_iff.1 hd).1
              simp only [List.length_cons] at g1
              have hne : vs ≠ [] := by intro e; subst e; simp at g3; omega
              obtain ⟨b, off, i1, i2, i3⟩ := h5 hne
              refine ⟨.pointer (some ⟨b, off + n.toNat * ety.size, none⟩), ?_, ?_, trivial⟩
              · simp only [execOp, ho, hr.lit hy, h1, i1, Sem.run_bind, run_indexAt_slice hu he _ el.length cap k n hc (by omega), Result.andThen_ok, Sem.run_pure, Addr.add_lit]
              · unfold repP
                have gl := reps_length g2
                refine ⟨b, _, _, rfl, g2, fun e => ?_, i2, fun j u hu' => ?_⟩
                · rw [e] at gl; simp at gl
                · rw [List.getElem?_take] at hu'
                  split at hu'
                  · rw [List.getElem?_drop] at hu'
                    rw [Nat.add_assoc]; exact i3 _ u hu'
                  · cases hu'
            · cases h
          · cases h
        · rename_i i hx
          split at h
          · rename_i sz el hi
            split at h
            · rename_i hsz
              subst hsz
              simp only [Option.some.injEq, Prod.mk.injEq] at h
              obtain ⟨rfl, rfl⟩ := h
              refine sound_pure fun B β X w a hr hc => ?_
              have hxx := hr.ev x
              rw [hx] at hxx
              obtain ⟨hx1, hx2⟩ := hxx
              unfold repP at hx1
              have hv := hx1 _ _ hi
              have hrow := hr.mem.ok i
              rw [hi] at hrow
              obtain ⟨r1, r2, r3⟩ := hrow
              rcases r3 with ⟨_, rfl⟩ | ⟨b, cs, ety', fr, r3, r4, r5, r6, r7, r8, r9⟩
              · simp at hc; omega
              · refine ⟨.pointer (some ⟨b, n.toNat * ety.size, none⟩), ?_, ?_, hx2⟩
                · simp only [execOp, ho, hr.lit hy, hv, r4, Sem.run_bind, run_indexAt_slice hu he _ _ _ k n hc.1 hc.2, Result.andThen_ok, Sem.run_pure, Addr.add_lit, Nat.zero_add]
                · unfold repP
                  intro sz' el' hi'
                  rw [hi] at hi'; cases hi'
                  exact ⟨by omega, b, r4, rfl⟩
            · cases h
          · cases h
        · rename_i i off m hx
          split at h
          · rename_i sz el hi
            split at h
            · rename_i hsz
              subst hsz
              simp only [Option.some.injEq, Prod.mk.injEq] at h
              obtain ⟨rfl, rfl⟩ := h
              refine sound_pure fun B β X w a hr hc => ?_
              have hxx := hr.ev x
              rw [hx] at hxx
              obtain ⟨hx1, hx2⟩ := hxx
              unfold repP at hx1
              obtain ⟨hle, hv⟩ := hx1 _ _ hi
              have hrow := hr.mem.ok i
              rw [hi] at hrow
              obtain ⟨r1, r2, r3⟩ := hrow
              rcases r3 with ⟨_, rfl⟩ | ⟨b, cs, ety', fr, r3, r4, r5, r6, r7, r8, r9⟩
              · simp at hle; omega
              · have hcap : ¬ (β i).cap = off := by omega
                rw [if_neg hcap, r4] at hv
                simp only [Option.map_some, Addr.add_lit, Nat.zero_add] at hv
                refine ⟨.pointer (some ⟨b, off * ety.size + n.toNat * ety.size, none⟩), ?_, ?_, hx2⟩
                · simp only [execOp, ho, hr.lit hy, hv, Sem.run_bind, run_indexAt_slice hu he _ _ _ k n hc.1 hc.2, Result.andThen_ok, Sem.run_pure, Addr.add_lit]
                · unfold repP
                  intro sz' el' hi'
                  rw [hi] at hi'; cases hi'
                  exact ⟨by omega, b, r4, by rw [Nat.add_mul, Nat.add_zero]⟩
            · cases h
          · cases h
        · cases h
      · cases h
    · rename_i len e hk
      have hu := tyOf_array ht hk
      split at h
      · rename_i ety he
        split at h
        · rename_i i off hx
          split at h
          · rename_i hal
            simp only [Option.some.injEq, Prod.mk.injEq] at h
            obtain ⟨rfl, rfl⟩ := h
            refine sound_pure fun B β X w a hr hc => ?_
            have hxx := hr.ev x
            rw [hx] at hxx
            obtain ⟨hx1, hx2⟩ := hxx
            obtain ⟨b, o', h1, h2⟩ := evOff_ok (n := n.toNat * ety.size) hx1 (by simpa [aliveP] using hal) rfl
            refine ⟨_, ?_, h2, hx2⟩
            simp only [execOp, ho, hr.lit hy, h1, Sem.run_bind, run_indexAt_array hu he _ k n hc.1 hc.2, Result.andThen_ok, Sem.run_pure, Addr.add_lit]
          · cases h
        · rename_i cs hx
          split at h
          · rename_i hlt
            simp only [Option.some.injEq, Prod.mk.injEq] at h
            obtain ⟨rfl, rfl⟩ := h
            refine sound_pure fun B β X w a hr hc => ?_
            have hxx := hr.ev x
            rw [hx] at hxx
            obtain ⟨hx1, hx2⟩ := hxx
            obtain ⟨b, o', h1, h2⟩ := evOff_ok (n := n.toNat * ety.size) (q := .iptr (cs.drop (n.toNat * ety.size))) hx1 rfl (by simp [evOff, hlt])
            refine ⟨_, ?_, h2, trivial⟩
            simp only [execOp, ho, hr.lit hy, h1, Sem.run_bind, run_indexAt_array hu he _ k n hc.1 hc.2, Result.andThen_ok, Sem.run_pure, Addr.add_lit]
          · cases h
        · cases h
      · cases h
    · cases h
  · cases h

theorem op_index {P : Program} {o : Oper} {s : St} {t : TypeId} {x y : Operand} {k : IntKind} {n : Int} {str : ByteArray} (ho : o.op = .index t x y) (hx : ev s.regs x = .d (.lit (.string str)))
    (hy : ev s.regs y = .d (.lit (.int k n))) (ht : tyIs P t TK.isStr = true) : OpSound P o s (Eff.pureIf (0 ≤ n ∧ n < str.size) (.d (.lit (.int .u8 (str.data.toList.getD n.toNat 0).toNat)))) :=
  sound_lit fun B β X w a hr hc => by
    have hlt : n.toNat < str.size := by omega
    have hlt' : n.toNat < str.data.toList.length := by
      have : str.data.toList.length = str.size := Array.length_toList
      omega
    have hg : str[n.toNat]? = some (str.data.toList.getD n.toNat 0) := by
      rw [getElem?_pos str n.toNat hlt, List.getD, List.getElem?_eq_getElem hlt']
      rfl
    simp only [execOp, ho, hr.lit hx, hr.lit hy, Instr.index, asIntOf, Sem.run_bind, Sem.run_pure, Result.andThen_ok, run_underlying (tyIs_string ht), hc.1, if_true, hg]

/-! ## slice -/
def evSl (P : Program) (rows : Rows) (t : TypeId) (p : PV) (lo hi : Option Int) : Option (Prop × PV) :=
  match p with
  | .d (.lit (.string s)) => if tyIs P t TK.isStr then
      some (0 ≤ lo.getD 0 ∧ lo.getD 0 ≤ hi.getD s.size ∧ hi.getD s.size ≤ s.size, .d (.lit (.string (s.extract (lo.getD 0).toNat (hi.getD s.size).toNat)))) else none
  | .d (.lit (.slice none 0 0)) => match tyOf P t with
    | some ty => match ty.k with
      | .slice e => match tyOf P e with
        | some _ => some (0 ≤ lo.getD 0 ∧ lo.getD 0 ≤ hi.getD 0 ∧ hi.getD 0 ≤ 0, .d (.lit (.slice none 0 0)))
        | none => none
      | _ => none
    | none => none
  | .d (.sl sz el) => match tyOf P t with
    | some ty => match ty.k with
      | .slice e => match tyOf P e with
        | some ety => if sz = ety.size then
            some (0 ≤ lo.getD 0 ∧ lo.getD 0 ≤ hi.getD el.length ∧ hi.getD el.length ≤ el.length, .d (.sl sz ((el.take (hi.getD el.length).toNat).drop (lo.getD 0).toNat))) else none
        | none => none
      | _ => none
    | none => none
  | .own i => match rows i, tyOf P t with
    | .own sz el, some ty => match ty.k with
      | .slice e => match tyOf P e with
        | some ety => if sz = ety.size then
            some (0 ≤ lo.getD 0 ∧ lo.getD 0 ≤ hi.getD el.length ∧ hi.getD el.length ≤ el.length, .win i (lo.getD 0).toNat ((hi.getD el.length).toNat - (lo.getD 0).toNat)) else none
        | none => none
      | _ => none
    | _, _ => none
  | _ => none

/-- a bound of a slice expression -/
def bdV (regs : Nat → PV) : Option Operand → Option (Option Int)
  | none => some none
  | some x => match ev regs x with | .d (.lit (.int _ n)) => some (some n) | _ => none

theorem bd_eval {B : Base} {β : Nat → Loc} {X : Nat → Prop} {w : World} {a : Act} {s : St} (hr : SRel B β X w a s) {x : Option Operand} {n : Option Int} (h : bdV s.regs x = some n) :
    (x.map a.eval = none ∧ n = none) ∨ ∃ k m, x.map a.eval = some (.int k m) ∧ n = some m := by
  unfold bdV at h
  split at h
  · simp only [Option.some.injEq] at h; exact .inl ⟨rfl, h.symm⟩
  · rename_i x
    split at h
    · rename_i k m hx
      simp only [Option.some.injEq] at h
      exact .inr ⟨k, m, by rw [Option.map_some, hr.lit hx], h.symm⟩
    · cases h

theorem run_bounds {P : Program} {w : World} {isS : Bool} {len cap : Nat} {lv hv : Option Value} {lo hi : Option Int}
    (hl : (lv = none ∧ lo = none) ∨ ∃ k m, lv = some (.int k m) ∧ lo = some m) (hh : (hv = none ∧ hi = none) ∨ ∃ k m, hv = some (.int k m) ∧ hi = some m)
    (h0 : 0 ≤ lo.getD 0) (h1 : lo.getD 0 ≤ hi.getD len) (h2 : hi.getD len ≤ cap) :
    (Instr.sliceBounds isS len cap lv hv none).run P w = .ok ((lo.getD 0).toNat, (hi.getD len).toNat, cap) w := by
  rcases hl with ⟨rfl, rfl⟩ | ⟨k, m, rfl, rfl⟩ <;> rcases hh with ⟨rfl, rfl⟩ | ⟨k', m', rfl, rfl⟩ <;> simp only [Option.getD_some, Option.getD_none] at h0 h1 h2
  · simp [Instr.sliceBounds]
  · simp [Instr.sliceBounds, Instr.sliceBound, asIntOf, h1, h2]
  · simp [Instr.sliceBounds, Instr.sliceBound, asIntOf, h0, h1]
  · have e1 : 0 ≤ m' := by omega
    have e2 : ¬ max m' 0 < m := by omega
    simp [Instr.sliceBounds, Instr.sliceBound, asIntOf, h0, h2, e1, e2]

set_option maxHeartbeats 1000000 in
theorem op_slice {P : Program} {o : Oper} {s : St} {t : TypeId} {x : Operand} {lv hv : Option Operand} {lo hi : Option Int} {c : Prop} {q : PV} (ho : o.op = .slice t x lv hv none)
    (hl : bdV s.regs lv = some lo) (hh : bdV s.regs hv = some hi) (h : evSl P s.rows t (ev s.regs x) lo hi = some (c, q)) : OpSound P o s (Eff.pureIf c q) := by
  unfold evSl at h
  split at h
  · rename_i str hx
    split at h
    · rename_i ht
      simp only [Option.some.injEq, Prod.mk.injEq] at h
      obtain ⟨rfl, rfl⟩ := h
      refine sound_lit fun B β X w a hr hc => ?_
      have hb := run_bounds (P := P) (w := w) (isS := false) (len := str.size) (cap := str.size) (bd_eval hr hl) (bd_eval hr hh) hc.1 hc.2.1 hc.2.2
      simp only [execOp, ho, hr.lit hx, Instr.sliceAt, Sem.run_bind, run_underlying (tyIs_string ht), Result.andThen_ok, Instr.slice, Option.map_none, Option.isSome_none, Bool.false_eq_true, if_false, hb, Sem.run_pure]
    · cases h
  · rename_i hx
    split at h
    · rename_i ty ht
      split at h
      · rename_i e hk
        have hu := tyOf_slice ht hk
        split at h
        · rename_i ety he
          simp only [Option.some.injEq, Prod.mk.injEq] at h
          obtain ⟨rfl, rfl⟩ := h
          refine sound_lit fun B β X w a hr hc => ?_
          have hb := run_bounds (P := P) (w := w) (isS := true) (len := 0) (cap := 0) (bd_eval hr hl) (bd_eval hr hh) hc.1 (by simpa using hc.2.1) (by simpa using hc.2.2)
          have e1 : (lo.getD 0).toNat = 0 := by omega
          have e2 : (hi.getD ((0 : Nat) : Int)).toNat = 0 := by
            have := hc.2.2
            simp only [Int.cast_ofNat_Int]; omega
          rw [e1, e2] at hb
          simp only [execOp, ho, hr.lit hx, Instr.sliceAt, Sem.run_bind, run_underlying hu, Result.andThen_ok, Instr.slice, Option.map_none, hb, tyOf_size he, Sem.run_pure, if_true, Nat.sub_self]
        · cases h
      · cases h
    · cases h
  · rename_i sz el hx
    split at h
    · rename_i ty ht
      split at h
      · rename_i e hk
        have hu := tyOf_slice ht hk
        split at h
        · rename_i ety he
          split at h
          · rename_i hsz
            subst hsz
            simp only [Option.some.injEq, Prod.mk.injEq] at h
            obtain ⟨rfl, rfl⟩ := h
            refine sound_pure fun B β X w a hr hc => ?_
            have hxx := (hr.ev x).1
            rw [hx] at hxx
            unfold repP rep at hxx
            obtain ⟨ad, cap, vs, h1, h2, h3, h4, h5⟩ := hxx
            have hb := run_bounds (P := P) (w := w) (isS := true) (len := el.length) (cap := cap) (bd_eval hr hl) (bd_eval hr hh) hc.1 hc.2.1 (by omega)
            generalize hL : (lo.getD 0).toNat = L at *
            generalize hH : (hi.getD (el.length : Int)).toNat = H at *
            have hHL : L ≤ H ∧ H ≤ el.length := by omega
            refine ⟨.slice (if cap = L then ad else ad.map (·.add (L * ety.size))) (H - L) (cap - L), ?_, ?_, trivial⟩
            · simp only [execOp, ho, h1, Instr.sliceAt, Sem.run_bind, run_underlying hu, Result.andThen_ok, Instr.slice, Option.map_none, hb, tyOf_size he, Sem.run_pure]
            · unfold repP rep
              have e1 : ((el.take H).drop L).length = H - L := by simp; omega
              refine ⟨_, _, (vs.take (H * ety.size)).drop (L * ety.size), by rw [e1], by omega, by omega, repss_drop L (repss_take H h4), fun hne => ?_⟩
              have hne' : vs ≠ [] := by intro e; subst e; simp at hne
              obtain ⟨b, off, i1, i2, i3⟩ := h5 hne'
              have hcl : ¬ cap = L := by
                intro e
                apply hne
                have : H = L := by omega
                subst this
                simp
              rw [if_neg hcl, i1]
              refine ⟨b, off + L * ety.size, by simp [Addr.add_lit], i2, fun j u hu' => ?_⟩
              rw [List.getElem?_drop, List.getElem?_take] at hu'
              split at hu'
              · rw [Nat.add_assoc]; exact i3 _ u hu'
              · cases hu'
          · cases h
        · cases h
      · cases h
    · cases h
  · rename_i i hx
    split at h
    · rename_i sz el ty hi' ht
      split at h
      · rename_i e hk
        have hu := tyOf_slice ht hk
        split at h
        · rename_i ety he
          split at h
          · rename_i hsz
            subst hsz
            simp only [Option.some.injEq, Prod.mk.injEq] at h
            obtain ⟨rfl, rfl⟩ := h
            refine sound_pure fun B β X w a hr hc => ?_
            have hxx := hr.ev x
            rw [hx] at hxx
            obtain ⟨hx1, hx2⟩ := hxx
            unfold repP at hx1
            have hv := hx1 _ _ hi'
            have hrow := hr.mem.ok i
            rw [hi'] at hrow
            obtain ⟨r1, r2, _⟩ := hrow
            have hb := run_bounds (P := P) (w := w) (isS := true) (len := el.length) (cap := (β i).cap) (bd_eval hr hl) (bd_eval hr hh) hc.1 hc.2.1 (by omega)
            refine ⟨.slice (if (β i).cap = (lo.getD 0).toNat then (β i).a else (β i).a.map (·.add ((lo.getD 0).toNat * ety.size))) ((hi.getD (el.length : Int)).toNat - (lo.getD 0).toNat) ((β i).cap - (lo.getD 0).toNat), ?_, ?_, hx2⟩
            · simp only [execOp, ho, hv, Instr.sliceAt, Sem.run_bind, run_underlying hu, Result.andThen_ok, Instr.slice, Option.map_none, hb, tyOf_size he, Sem.run_pure]
            · unfold repP
              intro sz' el' hi''
              rw [hi'] at hi''; cases hi''
              exact ⟨by omega, rfl⟩
          · cases h
        · cases h
      · cases h
    · cases h
  · cases h
end Go.AM
