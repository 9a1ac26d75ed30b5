/- Proved here: a part of an abstract machine for the walks of this program, and that it tells the truth about the model. No condition. -/
import Derived.Test.YtjaklhbifgbiaaaAmU
set_option linter.unusedSimpArgs false
set_option linter.unusedVariables false
namespace Go.AM
open Go

/-! ## what the walk rewrites by -/
theorem K_mono_ACall {P : Program} {f : FuncId} {ps : List PV} {rows : Rows} {nx : Nat} {K K' : PV → Rows → Nat → Prop} (hk : ∀ r rows' nx', K r rows' nx' → K' r rows' nx') (h : ACall P f ps rows nx K) : ACall P f ps rows nx K' := h.mono hk

theorem aop_mono {P : Program} {o : Oper} {s : St} {K K' : St → Prop} (hk : ∀ s, K s → K' s) (h : aop P o s K) : aop P o s K' := by
  unfold aop at *
  cases he : evOp P o s with
  | some e => rw [he] at h; exact ⟨h.1, h.2.1, hk _ h.2.2⟩
  | none =>
    rw [he] at h
    simp only at h ⊢
    cases hop : o.op with
    | call c =>
      rw [hop] at h
      simp only at h ⊢
      cases hf : calleeOf s c with
      | some x => obtain ⟨f, ps⟩ := x; rw [hf] at h; exact ⟨h.1, h.2.1, h.2.2.mono fun _ _ _ h => hk _ h⟩
      | none => rw [hf] at h; exact h
    | _ => rw [hop] at h; exact h

theorem aops_mono {P : Program} {ops : Array Oper} {K K' : St → Prop} (hk : ∀ s, K s → K' s) : ∀ (l : List Oper) (s : St), aops P ops K l s → aops P ops K' l s
  | [], s, h => hk s h
  | o :: rest, s, h => by
    unfold aops at *
    split
    · rename_i hg; rw [hg] at h; exact aop_mono (fun s => aops_mono hk rest s) h
    · rename_i j want hg
      rw [hg] at h
      simp only at h ⊢
      split
      · rename_i b hb
        rw [hb] at h
        simp only at h
        split
        · rename_i hbw; rw [if_pos hbw] at h; exact aop_mono (fun s => aops_mono hk rest s) h
        · rename_i hbw; rw [if_neg hbw] at h; exact ⟨h.1, aops_mono hk rest _ h.2⟩
      · rename_i hb; rw [hb] at h; exact h

theorem awp_mono {P : Program} : ∀ (c : Code) (Q Q' : Exit → St → Prop) (s : St), (∀ e s, Q e s → Q' e s) → awp P c Q s → awp P c Q' s
  | .skip, Q, Q', s, hq, h => hq _ _ h
  | .region id ops draw, Q, Q', s, hq, h => by
    unfold awp at *
    cases draw
    · exact aops_mono (hq .normal) _ _ h
    · obtain ⟨s', h1, h2⟩ := h; exact ⟨s', hq _ _ h1, h2⟩
  | .seq x y, Q, Q', s, hq, h => by
    unfold awp at *
    refine awp_mono x _ _ s (fun e s h => ?_) h
    cases e with
    | normal => exact awp_mono y _ _ s hq h
    | _ => exact hq _ _ h
  | .cond c x y, Q, Q', s, hq, h => by
    unfold awp at *
    split
    · rename_i t hc
      rw [hc] at h
      simp only at h
      split
      · rename_i ht; rw [if_pos ht] at h; exact awp_mono x _ _ s hq h
      · rename_i ht; rw [if_neg ht] at h; exact awp_mono y _ _ s hq h
    · rename_i hne
      split at h
      · rename_i t hc; exact absurd hc (hne t)
      · exact h
  | .block id c, Q, Q', s, hq, h => by
    unfold awp at *
    refine awp_mono c _ _ s (fun e s h => ?_) h
    cases e with
    | exit id' => simp only [blockQ] at h ⊢; split <;> rename_i hid <;> simp only [hid, if_true, if_false] at h <;> exact hq _ _ h
    | _ => exact hq _ _ h
  | .loop c, Q, Q', s, hq, h => by
    unfold awp at *
    obtain ⟨ι, inv, μ, h0, hround⟩ := h
    refine ⟨ι, inv, μ, h0, fun i => awp_mono c _ _ _ (fun e s h => ?_) (hround i)⟩
    cases e with
    | normal => exact h
    | _ => exact hq _ _ h
  | .exit id, Q, Q', s, hq, h => hq _ _ h
  | .ret, Q, Q', s, hq, h => hq _ _ h
  | .label _, _, _, _, _, h => h
  | .goto _, _, _, _, _, h => h
  | .scope _, _, _, _, _, h => h
  | .refuse _, _, _, _, _, h => h
  | .rangeFunc _ _ _ _, _, _, _, _, h => h

def dlt (d : Option Nat) (n : Nat) : Prop := match d with | some d => d < n | none => True
theorem dlt_some {d n : Nat} : dlt (some d) n = (d < n) := rfl
theorem dlt_none {n : Nat} : dlt none n = True := rfl
theorem dlt_eq {d : Option Nat} {n : Nat} : (∀ d', d = some d' → d' < n) = dlt d n := by cases d <;> simp [dlt]

section
variable {P : Program} {Q : Exit → St → Prop} {s : St}
def ALoop (P : Program) (c : Code) (Q : Exit → St → Prop) (s : St) : Prop := aloop (awp P c) Q s
theorem awp_skip : awp P .skip Q s = Q .normal s := rfl
theorem awp_reg {id : Nat} {l : List Oper} : awp P (.region id l.toArray false) Q s = aops P l.toArray (Q .normal) l s := rfl
theorem awp_regD {id : Nat} {ops : Array Oper} : awp P (.region id ops true) Q s = aregD P ops (Q .normal) s := rfl
theorem awp_seq {x y : Code} : awp P (.seq x y) Q s = awp P x (thenQ (awp P y Q) Q) s := rfl
theorem awp_block {id : Nat} {c : Code} : awp P (.block id c) Q s = awp P c (blockQ id Q) s := rfl
theorem awp_loop {c : Code} : awp P (.loop c) Q s = ALoop P c Q s := rfl
theorem awp_exit {id : Nat} : awp P (.exit id) Q s = Q (.exit id) s := rfl
theorem awp_ret : awp P .ret Q s = Q .ret s := rfl
theorem awp_cond {c : Operand} {x y : Code} : awp P (.cond c x y) Q s = (match ev s.regs c with
    | .d (.lit (.bool t)) => if t = true then awp P x Q s else awp P y Q s
    | _ => False) := rfl
theorem thenQ_normal {K : St → Prop} : thenQ K Q .normal s = K s := rfl
theorem thenQ_exit {K : St → Prop} {id : Nat} : thenQ K Q (.exit id) s = Q (.exit id) s := rfl
theorem thenQ_ret {K : St → Prop} : thenQ K Q .ret s = Q .ret s := rfl
theorem blockQ_normal {id : Nat} : blockQ id Q .normal s = Q .normal s := rfl
theorem blockQ_ret {id : Nat} : blockQ id Q .ret s = Q .ret s := rfl
theorem blockQ_exit {id id' : Nat} : blockQ id Q (.exit id') s = if id' = id then Q .normal s else Q (.exit id') s := rfl
theorem aops_nil {ops : Array Oper} {K : St → Prop} : aops P ops K [] s = K s := rfl
theorem aops_cons {ops : Array Oper} {K : St → Prop} {d : Option Nat} {op : Op} {t : TypeId} {pos : String} {af : Array Edge} {rest : List Oper} :
    aops P ops K (⟨d, op, t, pos, af, none⟩ :: rest) s = aop P ⟨d, op, t, pos, af, none⟩ s (aops P ops K rest) := rfl
theorem aops_guard {ops : Array Oper} {K : St → Prop} {d : Option Nat} {op : Op} {t : TypeId} {pos : String} {af : Array Edge} {rest : List Oper} {j : Nat} {want : Bool} :
    aops P ops K (⟨d, op, t, pos, af, some (j, want)⟩ :: rest) s = (match yieldP ops s j want with
      | some b => if b = true then aop P ⟨d, op, t, pos, af, some (j, want)⟩ s (aops P ops K rest) else dlt d s.N ∧ aops P ops K rest (s.put d undP)
      | none => False) := by rw [← dlt_eq]; rfl

theorem upd_apply {α : Type} (f : Nat → α) (i : Nat) (x : α) (j : Nat) : upd f i x j = if j = i then x else f j := rfl
theorem put_some {N kl nx : Nat} {r : Nat → PV} {rows : Rows} {d : Nat} {p : PV} : St.put ⟨N, kl, r, rows, nx⟩ (some d) p = ⟨N, kl, upd r d p, rows, nx⟩ := rfl
theorem put_none {s : St} {p : PV} : s.put none p = s := rfl

/-- the pure ones -/
def K1 (s : St) (d : Option Nat) (c : Prop) (p : PV) (K : St → Prop) : Prop := c ∧ (∀ d', d = some d' → d' < s.N) ∧ K (s.put d p)
theorem K1_some {d : Nat} {p : PV} {c : Prop} {K : St → Prop} : K1 s (some d) c p K = (c ∧ d < s.N ∧ K (s.put (some d) p)) := by
  unfold K1; simp
theorem K1_none {p : PV} {c : Prop} {K : St → Prop} : K1 s none c p K = (c ∧ K s) := by
  unfold K1; simp [put_none]

def K1o (s : St) (d : Option Nat) (x : Option (Prop × PV)) (K : St → Prop) : Prop := match x with | some r => K1 s d r.1 r.2 K | none => False
theorem K1o_some {d : Option Nat} {r : Prop × PV} {K : St → Prop} : K1o s d (some r) K = K1 s d r.1 r.2 K := rfl
def K2o (s : St) (d : Option Nat) (x : Option PV) (K : St → Prop) : Prop := match x with | some r => K1 s d True r K | none => False
theorem K2o_some {d : Option Nat} {r : PV} {K : St → Prop} : K2o s d (some r) K = K1 s d True r K := rfl
def KE (s : St) (d : Option Nat) (x : Option Eff) (K : St → Prop) : Prop := match x with | some e => e.ok ∧ (∀ d', d = some d' → d' < s.N) ∧ K ((s.after e).put d e.val) | none => False
theorem KE_some {d : Option Nat} {e : Eff} {K : St → Prop} : KE s d (some e) K = (e.ok ∧ dlt d s.N ∧ K ((s.after e).put d e.val)) := by rw [← dlt_eq]; rfl
theorem dst_some {d n : Nat} : (∀ d', some d = some d' → d' < n) = (d < n) := by simp
theorem dst_none {n : Nat} : (∀ d', (none : Option Nat) = some d' → d' < n) = True := by simp

variable {d : Option Nat} {t : TypeId} {pos : String} {af : Array Edge} {g : Option (Nat × Bool)} {K : St → Prop}
theorem aop_move {x : Operand} : aop P ⟨d, .move x, t, pos, af, g⟩ s K = K1 s d True (ev s.regs x) K := rfl
theorem aop_assign {x : Operand} : aop P ⟨d, .assign x, t, pos, af, g⟩ s K = K1 s d True (ev s.regs x) K := rfl
theorem aop_pick {c x y : Operand} : aop P ⟨d, .pick c x y, t, pos, af, g⟩ s K = (match ev s.regs c with
    | .d (.lit (.bool b)) => K1 s d True (if b then ev s.regs x else ev s.regs y) K
    | _ => False) := by
  simp only [aop, evOp]
  cases hc : ev s.regs c with
  | d y => cases y with
    | lit v => cases v <;> rfl
    | _ => rfl
  | _ => rfl
theorem aop_alloc {u : TypeId} : aop P ⟨d, .alloc u, t, pos, af, g⟩ s K = KE s d (evAlloc P s u) K := by
  simp only [aop, evOp, KE]; cases evAlloc P s u <;> rfl
theorem aop_box {u : TypeId} {x : Operand} : aop P ⟨d, .box u x, t, pos, af, g⟩ s K = KE s d (evBox s (ev s.regs x)) K := by
  simp only [aop, evOp, KE]; cases evBox s (ev s.regs x) <;> rfl
theorem aop_build {u : TypeId} {parts : Array (Nat × Operand)} : aop P ⟨d, .build u parts, t, pos, af, g⟩ s K = K2o s d (evBuild P s u (parts.toList.map fun x => (x.1, ev s.regs x.2))) K := by
  simp only [aop, evOp, K2o]; cases evBuild P s u (parts.toList.map fun x => (x.1, ev s.regs x.2)) <;> rfl
theorem aop_buildSlice {u : TypeId} {n : Nat} {parts : Array (Nat × Operand)} : aop P ⟨d, .buildSlice u n parts, t, pos, af, g⟩ s K = KE s d (evBS P s u n (parts.toList.map fun x => (x.1, ev s.regs x.2))) K := by
  simp only [aop, evOp, KE]; cases evBS P s u n (parts.toList.map fun x => (x.1, ev s.regs x.2)) <;> rfl
theorem aop_load {u : TypeId} {x : Operand} : aop P ⟨d, .load u x, t, pos, af, g⟩ s K = K2o s d (evLoad P s.rows u (ev s.regs x)) K := by
  simp only [aop, evOp, K2o]; cases evLoad P s.rows u (ev s.regs x) <;> rfl
theorem aop_store {u : TypeId} {x y : Operand} : aop P ⟨d, .store u x y, t, pos, af, g⟩ s K = KE s d ((evStore P s.rows u (ev s.regs x) (ev s.regs y)).map fun r => effSet r.1 r.2) K := by
  simp only [aop, evOp, KE]; cases evStore P s.rows u (ev s.regs x) (ev s.regs y) <;> rfl
theorem aop_nil {x : Operand} : aop P ⟨d, .nilCheck x, t, pos, af, g⟩ s K = K2o s d (evNil s.rows (ev s.regs x)) K := by
  simp only [aop, evOp, K2o]; cases evNil s.rows (ev s.regs x) <;> rfl
theorem aop_bin {op : BinOp} {u u' : TypeId} {x y : Operand} : aop P ⟨d, .binOp op u x y u', t, pos, af, g⟩ s K = K1o s d (evBinP P op u s.rows (ev s.regs x) (ev s.regs y)) K := by
  simp only [aop, evOp, K1o]; cases evBinP P op u s.rows (ev s.regs x) (ev s.regs y) <;> rfl
theorem aop_un {op : UnOp} {u : TypeId} {x : Operand} : aop P ⟨d, .unOp op u x, t, pos, af, g⟩ s K = (match ev s.regs x with
    | .d (.lit v) => K2o s d ((evUn op v).map fun v => .d (.lit v)) K
    | _ => False) := by
  simp only [aop, evOp]
  cases hx : ev s.regs x with
  | d x => cases x with
    | lit v => simp only [K2o]; cases evUn op v <;> rfl
    | _ => rfl
  | _ => rfl
theorem aop_conv {u u' : TypeId} {x : Operand} : aop P ⟨d, .convert u u' x, t, pos, af, g⟩ s K = K2o s d ((evConv P s.rows u u' (ev s.regs x)).or (evConvId P s.rows u u' (ev s.regs x))) K := by
  simp only [aop, evOp, K2o]; cases evConv P s.rows u u' (ev s.regs x) <;> (try rfl); cases evConvId P s.rows u u' (ev s.regs x) <;> rfl
theorem aop_makeSlice {u : TypeId} {x y : Operand} : aop P ⟨d, .makeSlice u x y, t, pos, af, g⟩ s K = KE s d (evMake P s u (ev s.regs x) (ev s.regs y)) K := by
  simp only [aop, evOp, KE]; cases evMake P s u (ev s.regs x) (ev s.regs y) <;> rfl
theorem aop_slice {u : TypeId} {x : Operand} {lo hi : Option Operand} : aop P ⟨d, .slice u x lo hi none, t, pos, af, g⟩ s K = (match bdV s.regs lo, bdV s.regs hi with
    | some l, some h => K1o s d (evSl P s.rows u (ev s.regs x) l h) K
    | _, _ => False) := by
  simp only [aop, evOp]
  cases bdV s.regs lo <;> cases bdV s.regs hi <;> try rfl
  simp only [K1o]
  rename_i l h
  cases evSl P s.rows u (ev s.regs x) l h <;> rfl
theorem aop_fieldAddr {u : TypeId} {x : Operand} {f : Nat} : aop P ⟨d, .fieldAddr u x f, t, pos, af, g⟩ s K = K2o s d (evField P s.rows u (ev s.regs x) f) K := by
  simp only [aop, evOp, K2o]; cases evField P s.rows u (ev s.regs x) f <;> rfl
theorem aop_indexAddr {u : TypeId} {x y : Operand} : aop P ⟨d, .indexAddr u x y, t, pos, af, g⟩ s K = (match ev s.regs y with
    | .d (.lit (.int _ n)) => K1o s d (evIdx P s.rows u (ev s.regs x) n) K
    | _ => False) := by
  simp only [aop, evOp]
  cases hy : ev s.regs y with
  | d y => cases y with
    | lit v => cases v with
      | int k n => simp only [K1o]; cases evIdx P s.rows u (ev s.regs x) n <;> rfl
      | _ => rfl
    | _ => rfl
  | _ => rfl
theorem aop_extract {x : Operand} {i : Nat} : aop P ⟨d, .extract x i, t, pos, af, g⟩ s K = K2o s d (evExtract (ev s.regs x) i) K := by
  simp only [aop, evOp, K2o]; cases evExtract (ev s.regs x) i <;> rfl
theorem aop_makeFunc {fn : Fn} {f c : Array Operand} : aop P ⟨d, .makeFunc fn f c, t, pos, af, g⟩ s K = K1 s d True (.clo fn (f.toList.map (ev s.regs)) (c.toList.map (ev s.regs))) K := rfl
theorem aop_makeInterface {u : TypeId} {x : Operand} : aop P ⟨d, .makeInterface u x, t, pos, af, g⟩ s K = K1 s d (notIface P u = true) (.ifc u (ev s.regs x)) K := by
  simp only [aop, evOp]
  by_cases h : notIface P u = true
  · rw [if_pos h]; simp only [K1, h]; rfl
  · rw [if_neg h]; simp only [K1, h]; simp
theorem aop_len {x : Operand} {u : TypeId} : aop P ⟨d, .call { callee := .builtin .len, args := #[x], argTypes := #[u] }, t, pos, af, g⟩ s K = K2o s d ((evLen P s.rows u (ev s.regs x)).map fun n => .d (.lit (.int .i64 n))) K := by
  simp only [aop, evOp, K2o]; cases evLen P s.rows u (ev s.regs x) <;> rfl
theorem aop_append {x y : Operand} {u u' : TypeId} : aop P ⟨d, .call { callee := .builtin .append, args := #[x, y], argTypes := #[u, u'] }, t, pos, af, g⟩ s K = KE s d (evApp P s u u' (ev s.regs x) (ev s.regs y)) K := by
  simp only [aop, evOp, KE]; cases evApp P s u u' (ev s.regs x) (ev s.regs y) <;> rfl
theorem aop_call {x : Operand} {args : Array Operand} {ts : Array TypeId} : aop P ⟨d, .call { callee := .value x, args := args, argTypes := ts }, t, pos, af, g⟩ s K = (match ev s.regs x with
    | .clo (.func f) first cap => isFn P f = true ∧ dlt d s.N ∧ ACall P f (first ++ args.toList.map (ev s.regs) ++ cap) s.rows s.nx fun r rows' nx' => K ({ s with rows := rows', nx := nx' }.put d r)
    | _ => False) := by
  simp only [aop, evOp, calleeOf, dlt_eq]
  cases hx : ev s.regs x with
  | clo fn f c => cases fn <;> rfl
  | _ => rfl
end


theorem ALoop.intro {P : Program} {c : Code} {Q : Exit → St → Prop} {s : St} {ι : Type} (N kl : Nat) (R : ι → List (Nat × PV)) (W : ι → List Row) (μ : ι → Nat) (i : ι) (F ρ : List Nat) (h0 : Ent s F ρ N kl (R i) (W i))
    (hr : ∀ i, awp P c (thenQ (fun s' => ∃ j F ρ, Ent s' F ρ N kl (R j) (W j) ∧ μ j < μ i) Q) (mkSt N kl (R i) (W i))) : ALoop P c Q s :=
  ⟨ι, fun i => mkSt N kl (R i) (W i), μ, ⟨i, fun _ _ _ h => h0.sat h⟩, fun i => awp_mono _ _ _ _ (fun e s h => by
    cases e with
    | normal => obtain ⟨j, F, ρ, h1, h2⟩ := h; exact ⟨j, fun _ _ _ h => h1.sat h, h2⟩
    | _ => exact h) (hr i)⟩

/-- no rows: nothing to freeze or to rename -/
theorem Ent.plain {s : St} {N kl : Nat} {regs : List (Nat × PV)} (n : s.N = N) (k : s.kl = kl) (hk : kl = 0) (h : regsEnt s [] [] regs) (hs : (regs.all fun x => scB 0 x.2) = true) : Ent s [] [] N kl regs [] :=
  ⟨n, k, by simp [hk], fun i hi => by omega, h, trivial, rfl, List.nodup_nil, hs, rfl⟩
end Go.AM
