/- Proved here: a part of an abstract machine for the walks of this program, and that it tells the truth about the model. No condition. -/
import Derived.Test.YtjaklhbifgbiaaaAmI
set_option linter.unusedSimpArgs false
set_option linter.unusedVariables false
namespace Go.AM
open Go

/-- a slice's size of element and elements, to be read -/
def viewOf (rows : Rows) : PV → Option (Nat × List (List DV))
  | .d (.sl sz el) => some (sz, el)
  | .own i => match rows i with | .own sz el => some (sz, el) | _ => none
  | .win i off m => match rows i with | .own sz el => some (sz, (el.drop off).take m) | _ => none
  | _ => none

theorem repss_sub {w : World} {X : Nat → Prop} {sz off m : Nat} {el : List (List DV)} {vs : List Value} (h : repss w X sz el vs) :
    repss w X sz ((el.drop off).take m) ((vs.drop (off * sz)).take (m * sz)) := repss_take m (repss_drop off h)

theorem viewOf_ok {B : Base} {β : Nat → Loc} {X : Nat → Prop} {w : World} {rows : Rows} {nx : Nat} {p : PV} {v : Value} {sz : Nat} {el : List (List DV)} (hm : Mem B β X w rows nx)
    (h : repP rows β w X p v) (hv : viewOf rows p = some (sz, el)) :
    ∃ a cap vs, v = .slice a el.length cap ∧ el.length ≤ cap ∧ cap ≤ maxLen ∧ repss w X sz el vs ∧
      (vs ≠ [] → ∃ b off, a = some ⟨b, off, none⟩ ∧ ∀ j u, vs[j]? = some u → w.cell? ⟨b, off + j, none⟩ = some u) := by
  unfold viewOf at hv
  split at hv
  · simp only [Option.some.injEq, Prod.mk.injEq] at hv
    obtain ⟨rfl, rfl⟩ := hv
    unfold repP rep at h
    obtain ⟨a, cap, vs, h1, h2, h3, h4, h5⟩ := h
    exact ⟨a, cap, vs, h1, h2, h3, h4, fun hne => let ⟨b, off, g1, _, g3⟩ := h5 hne; ⟨b, off, g1, g3⟩⟩
  · rename_i i
    split at hv
    · rename_i sz' el' hi
      simp only [Option.some.injEq, Prod.mk.injEq] at hv
      obtain ⟨rfl, rfl⟩ := hv
      have hrow := hm.ok i
      rw [hi] at hrow
      obtain ⟨h1, h2, h3⟩ := hrow
      unfold repP at h
      have hv := h sz' el' hi
      rcases h3 with ⟨h3, rfl⟩ | ⟨b, cs, e, fr, h3, h4, h5, h6, h7, h8, h9⟩
      · exact ⟨(β i).a, (β i).cap, [], hv, h1, h2, by simp [repss], fun hne => absurd rfl hne⟩
      · refine ⟨(β i).a, (β i).cap, _, hv, h1, h2, h9, fun hne => ⟨b, 0, h4, fun j u hu => ?_⟩⟩
        rw [cell_of_heap h6, Nat.zero_add]
        rw [List.getElem?_take] at hu
        split at hu
        · simpa using hu
        · cases hu
    · cases hv
  · rename_i i off m
    split at hv
    · rename_i sz' el' hi
      simp only [Option.some.injEq, Prod.mk.injEq] at hv
      obtain ⟨rfl, rfl⟩ := hv
      have hrow := hm.ok i
      rw [hi] at hrow
      obtain ⟨h1, h2, h3⟩ := hrow
      unfold repP at h
      obtain ⟨hle, hv⟩ := h sz' el' hi
      have hlen : ((el'.drop off).take m).length = m := by simp; omega
      rw [hlen]
      rcases h3 with ⟨h3, rfl⟩ | ⟨b, cs, e, fr, h3, h4, h5, h6, h7, h8, h9⟩
      · simp only [List.length_nil, Nat.le_zero_eq, Nat.add_eq_zero_iff] at hle
        obtain ⟨rfl, rfl⟩ := hle
        exact ⟨_, _, [], hv, by omega, by omega, by simp [repss], fun hne => absurd rfl hne⟩
      · refine ⟨_, _, _, hv, by omega, by omega, repss_sub h9, fun hne => ?_⟩
        have hcap : ¬ (β i).cap = off := by
          intro e
          apply hne
          have : m = 0 := by omega
          subst this; simp
        rw [if_neg hcap, h4]
        refine ⟨b, off * sz', by simp [Addr.add_lit], fun j u hu => ?_⟩
        rw [cell_of_heap h6]
        rw [List.getElem?_take] at hu
        split at hu
        · rw [List.getElem?_drop, List.getElem?_take] at hu
          split at hu
          · simpa using hu
          · cases hu
        · cases hu
    · cases hv
  · cases hv

/-! ## len -/
def TK.isSl : TK → Bool | .slice _ => true | _ => false
def TK.isStr : TK → Bool | .string => true | _ => false
def evLen (P : Program) (rows : Rows) (t : TypeId) (p : PV) : Option Int :=
  match p with
  | .d (.lit (.string s)) => if tyIs P t TK.isStr then some s.size else none
  | .d (.lit (.slice _ n _)) => if tyIs P t TK.isSl then some n else none
  | p => match viewOf rows p with
    | some (_, el) => if tyIs P t TK.isSl then some el.length else none
    | none => none

theorem tyIs_slice {P : Program} {t : TypeId} (h : tyIs P t TK.isSl = true) : ∃ e, P.underlying t = some (.slice e) := by
  unfold tyIs at h
  split at h
  · rename_i ty ht
    cases hk : ty.k <;> rw [hk] at h <;> simp [TK.isSl] at h
    exact ⟨_, tyOf_slice ht hk⟩
  · cases h

theorem tyIs_string {P : Program} {t : TypeId} (h : tyIs P t TK.isStr = true) : P.underlying t = some .string := by
  unfold tyIs at h
  split at h
  · rename_i ty ht
    refine tyOf_string ht ?_
    cases hk : ty.k <;> rw [hk] at h <;> simp [TK.isStr] at h
  · cases h

theorem op_len {P : Program} {o : Oper} {s : St} {t : TypeId} {x : Operand} {n : Int} (ho : o.op = .call { callee := .builtin .len, args := #[x], argTypes := #[t] })
    (h : evLen P s.rows t (ev s.regs x) = some n) : OpSound P o s (Eff.pureIf True (.d (.lit (.int .i64 n)))) := by
  have key : ∀ {w : World} {v : Value} {a : Act}, a.eval x = v → (Builtin.len_ #[t] o.type #[v]).run P w = .ok (.int .i64 n) w → (execOp a.eval o).run P w = .ok (.value (.int .i64 n)) w := by
    intro w v a h1 h2
    simp only [execOp, ho, resolve, invoke, builtin, Sem.run_bind, Sem.run_pure, Result.andThen_ok, List.map_toArray, List.map_cons, List.map_nil, h1, h2]
  refine sound_lit fun B β X w a hr _ => ?_
  unfold evLen at h
  split at h
  · rename_i s' hx
    split at h
    · rename_i ht
      simp only [Option.some.injEq] at h; subst h
      exact key (hr.lit hx) (by simp [Builtin.len_, run_underlying (tyIs_string ht), goInt])
    · cases h
  · rename_i n' c hx
    split at h
    · rename_i ht
      obtain ⟨e, hu⟩ := tyIs_slice ht
      simp only [Option.some.injEq] at h; subst h
      exact key (hr.lit hx) (by simp [Builtin.len_, run_underlying hu, goInt])
    · cases h
  · split at h
    · rename_i sz el hv
      split at h
      · rename_i ht
        obtain ⟨e, hu⟩ := tyIs_slice ht
        simp only [Option.some.injEq] at h; subst h
        obtain ⟨a', cap, vs, h1, _⟩ := viewOf_ok hr.mem (hr.ev x).1 hv
        exact key h1 (by simp [Builtin.len_, run_underlying hu, goInt])
      · cases h
    · cases h

/-! ## min, max -/
theorem op_min {P : Program} {o : Oper} {s : St} {ts : Array TypeId} {x y : Operand} {k k' : IntKind} {m n : Int} (ho : o.op = .call { callee := .builtin .min, args := #[x, y], argTypes := ts })
    (hx : ev s.regs x = .d (.lit (.int k m))) (hy : ev s.regs y = .d (.lit (.int k' n))) : OpSound P o s (Eff.pureIf True (.d (.lit (.int k (if n < m then n else m))))) :=
  sound_lit fun B β X w a hr _ => by
    simp [execOp, ho, resolve, invoke, builtin, hr.lit hx, hr.lit hy, Builtin.min_, Builtin.min2]

theorem op_max {P : Program} {o : Oper} {s : St} {ts : Array TypeId} {x y : Operand} {k k' : IntKind} {m n : Int} (ho : o.op = .call { callee := .builtin .max, args := #[x, y], argTypes := ts })
    (hx : ev s.regs x = .d (.lit (.int k m))) (hy : ev s.regs y = .d (.lit (.int k' n))) : OpSound P o s (Eff.pureIf True (.d (.lit (.int k (if m < n then n else m))))) :=
  sound_lit fun B β X w a hr _ => by
    simp [execOp, ho, resolve, invoke, builtin, hr.lit hx, hr.lit hy, Builtin.max_, Builtin.max2]

/-! ## load, store -/
theorem op_load {P : Program} {o : Oper} {s : St} {t : TypeId} {x : Operand} {q : PV} (ho : o.op = .load t x) (h : evLoad P s.rows t (ev s.regs x) = some q) : OpSound P o s (Eff.pureIf True q) :=
  sound_pure fun B β X w a hr _ => by
    obtain ⟨u, h1, h2, h3⟩ := evLoad_ok hr.mem (hr.ev x).1 h
    exact ⟨u, by simp only [execOp, ho, Sem.run_bind, h1, Result.andThen_ok, Sem.run_pure], h2, h3⟩

def effSet (i : Nat) (r : Row) : Eff := { ok := True, val := .any, upds := [(i, r)], nn := 0 }

theorem op_store {P : Program} {o : Oper} {s : St} {t : TypeId} {x y : Operand} {i : Nat} {r : Row} (ho : o.op = .store t x y) (h : evStore P s.rows t (ev s.regs x) (ev s.regs y) = some (i, r)) :
    OpSound P o s (effSet i r) := by
  intro B β X w a hr _
  obtain ⟨w', h1, h2, h3, h4⟩ := evStore_ok hr.mem (hr.ev x).1 (hr.ev y).1 (hr.ev y).2 h
  refine ⟨undef, w', β, X, .inr ⟨by simp only [execOp, ho, Sem.run_bind, h1, Result.andThen_ok, Sem.run_pure], rfl⟩, ?_, by simp [effSet, repP], trivial⟩
  exact hr.of_mem h2 (Nat.le_refl _) fun p v hp hpv => repP_mono h3 h4 p v hp hpv

/-! ## addresses -/
def evNil (rows : Rows) (p : PV) : Option PV :=
  match p with
  | .ptr i off => if alive (rows i) then some (.ptr i off) else none
  | .iptr cs => some (.iptr cs)
  | .eptr i k c => match rows i with | .own _ _ => some (.eptr i k c) | _ => none
  | _ => none

theorem op_nil {P : Program} {o : Oper} {s : St} {x : Operand} {q : PV} (ho : o.op = .nilCheck x) (h : evNil s.rows (ev s.regs x) = some q) : OpSound P o s (Eff.pureIf True q) :=
  sound_pure fun B β X w a hr _ => by
    have hx := hr.ev x
    refine ⟨a.eval x, ?_, ?_⟩
    · have : ∃ ad, a.eval x = .pointer (some ad) := by
        unfold evNil at h
        split at h
        · rename_i i off he
          split at h
          · rename_i hal
            rw [he] at hx
            obtain ⟨hx1, _⟩ := hx
            unfold repP at hx1
            obtain ⟨b, _, h2⟩ := hx1 (fun e => by rw [e] at hal; simp [alive] at hal)
            exact ⟨_, h2⟩
          · cases h
        · rename_i cs he
          rw [he] at hx
          obtain ⟨hx1, _⟩ := hx
          unfold repP at hx1
          obtain ⟨b, off, vs, h1, _⟩ := hx1
          exact ⟨_, h1⟩
        · rename_i i k c he
          split at h
          · rename_i sz el hi
            rw [he] at hx
            obtain ⟨hx1, _⟩ := hx
            unfold repP at hx1
            obtain ⟨_, b, _, h2⟩ := hx1 sz el hi
            exact ⟨_, h2⟩
          · cases h
        · cases h
      obtain ⟨ad, had⟩ := this
      simp [execOp, ho, had]
    · have : q = ev s.regs x := by
        unfold evNil at h
        split at h
        · rename_i he
          split at h
          · simp only [Option.some.injEq] at h; rw [he]; exact h.symm
          · cases h
        · rename_i he; simp only [Option.some.injEq] at h; rw [he]; exact h.symm
        · rename_i he
          split at h
          · simp only [Option.some.injEq] at h; rw [he]; exact h.symm
          · cases h
        · cases h
      rw [this]; exact hx

/-- an address further on -/
def evOff (p : PV) (n : Nat) : Option PV :=
  match p with
  | .ptr i off => some (.ptr i (off + n))
  | .eptr i k c => some (.eptr i k (c + n))
  | .iptr cs => if n < cs.length then some (.iptr (cs.drop n)) else none
  | _ => none

def aliveP (rows : Rows) (p : PV) : Bool :=
  match p with
  | .ptr i _ => alive (rows i)
  | .eptr i _ _ => (match rows i with | .own _ _ => true | _ => false)
  | .iptr _ => true
  | _ => false

theorem evOff_ok {rows : Rows} {β : Nat → Loc} {w : World} {X : Nat → Prop} {p q : PV} {n : Nat} {v : Value} (h : repP rows β w X p v) (hal : aliveP rows p = true) (he : evOff p n = some q) :
    ∃ b off, v = .pointer (some ⟨b, off, none⟩) ∧ repP rows β w X q (.pointer (some ⟨b, off + n, none⟩)) := by
  unfold evOff at he
  split at he
  · rename_i i off
    simp only [Option.some.injEq] at he; subst he
    unfold repP at h
    obtain ⟨b, h1, h2⟩ := h (fun e => by simp [aliveP, e, alive] at hal)
    exact ⟨b, off, h2, by unfold repP; exact fun _ => ⟨b, h1, rfl⟩⟩
  · rename_i i k c
    simp only [Option.some.injEq] at he; subst he
    simp only [aliveP] at hal
    split at hal
    · rename_i sz el hi
      unfold repP at h
      obtain ⟨h0, b, h1, h2⟩ := h sz el hi
      refine ⟨b, _, h2, ?_⟩
      unfold repP
      intro sz' el' hi'
      rw [hi] at hi'; cases hi'
      exact ⟨h0, b, h1, by rw [Nat.add_assoc]⟩
    · cases hal
  · rename_i cs
    split at he
    · rename_i hn
      simp only [Option.some.injEq] at he; subst he
      unfold repP at h
      obtain ⟨b, off, vs, h1, h2, h3, h4, h5⟩ := h
      refine ⟨b, off, h1, ?_⟩
      unfold repP
      have hl := reps_length h2
      refine ⟨b, off + n, vs.drop n, rfl, reps_drop n h2, fun e => ?_, h4, fun j u hu => ?_⟩
      · have := congrArg List.length e
        simp at this; omega
      · rw [List.getElem?_drop] at hu
        rw [Nat.add_assoc]; exact h5 _ u hu
    · cases he
  · cases he

theorem Sc_evOff {S : Nat → Prop} {p q : PV} {n : Nat} (h : Sc S p) (he : evOff p n = some q) : Sc S q := by
  unfold evOff at he
  split at he
  · simp only [Option.some.injEq] at he; subst he; exact h
  · simp only [Option.some.injEq] at he; subst he; exact h
  · split at he
    · simp only [Option.some.injEq] at he; subst he; trivial
    · cases he
  · cases he

def evField (P : Program) (rows : Rows) (t : TypeId) (p : PV) (f : Nat) : Option PV :=
  match tyOf P t with
  | some ty => match ty.k with
    | .struct fs => match fs[f]? with
      | some (off, ft) => match tyOf P ft with
        | some fty => if 0 < fty.size && aliveP rows p then evOff p off else none
        | none => none
      | none => none
    | _ => none
  | none => none

theorem op_fieldAddr {P : Program} {o : Oper} {s : St} {t : TypeId} {x : Operand} {f : Nat} {q : PV} (ho : o.op = .fieldAddr t x f) (h : evField P s.rows t (ev s.regs x) f = some q) :
    OpSound P o s (Eff.pureIf True q) := by
  unfold evField at h
  split at h
  · rename_i ty ht
    split at h
    · rename_i fs hk
      split at h
      · rename_i off ft hf
        split at h
        · rename_i fty hft
          split at h
          · rename_i hc
            simp only [Bool.and_eq_true, decide_eq_true_eq] at hc
            obtain ⟨gs, hu, hfs⟩ := tyOf_struct ht hk
            refine sound_pure fun B β X w a hr _ => ?_
            obtain ⟨b, o', h1, h2⟩ := evOff_ok (hr.ev x).1 hc.2 h
            refine ⟨_, ?_, h2, Sc_evOff (hr.ev x).2 h⟩
            rw [hfs, List.getElem?_map, Option.map_eq_some_iff] at hf
            obtain ⟨g, hg, hg'⟩ := hf
            simp only [Prod.mk.injEq] at hg'
            obtain ⟨rfl, rfl⟩ := hg'
            have hg2 : gs[f]? = some g := by simpa using hg
            have hsz : ¬ fty.size = 0 := by omega
            simp only [execOp, ho, h1, Instr.fieldAt, Sem.run_bind, run_underlying hu, Result.andThen_ok, hg2, Instr.sureAddr, Sem.run_pure, fieldPlace, tyOf_size hft, hsz, if_false, Addr.add_lit]
          · cases h
        · cases h
      · cases h
    · cases h
  · cases h
end Go.AM
