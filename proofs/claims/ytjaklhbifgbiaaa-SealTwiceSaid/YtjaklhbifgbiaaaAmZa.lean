/- Proved here: a part of an abstract machine for the walks of this program, and that it tells the truth about the model. No condition. -/
import Derived.Test.YtjaklhbifgbiaaaAmZ
set_option linter.unusedSimpArgs false
set_option linter.unusedVariables false
namespace Go.AM
open Go

/-! ## the walk of code, regions in any order and all -/
def awpW (P : Program) : Code → (Exit → St → Prop) → St → Prop
  | .skip, Q, s => Q .normal s
  | .region _ ops draw, Q, s => if draw then aopsD P ops s.nx (fun fs s' => chk ops s.nx fs.reverse = true ∧ Q .normal s') 0 ops.toList [] s else aops P ops (Q .normal) ops.toList s
  | .seq x y, Q, s => awpW P x (thenQ (awpW P y Q) Q) s
  | .cond c x y, Q, s => match ev s.regs c with
    | .d (.lit (.bool t)) => if t = true then awpW P x Q s else awpW P y Q s
    | _ => False
  | .block id c, Q, s => awpW P c (blockQ id Q) s
  | .loop c, Q, s => aloop (awpW P c) Q s
  | .exit id, Q, s => Q (.exit id) s
  | .ret, Q, s => Q .ret s
  | _, _, _ => False

theorem awpW_awp {P : Program} (hP : P.follows .mixedOrders = true) : ∀ (c : Code) (Q : Exit → St → Prop) (s : St), awpW P c Q s → awp P c Q s
  | .skip, Q, s, h => h
  | .region id ops draw, Q, s, h => by
    unfold awpW at h
    unfold awp
    cases draw
    · exact h
    · exact aregD.intro hP rfl h
  | .seq x y, Q, s, h => by
    unfold awpW at h
    unfold awp
    refine awp_mono x _ _ s (fun e s h => ?_) (awpW_awp hP x _ s h)
    cases e with
    | normal => exact awpW_awp hP y Q s h
    | _ => exact h
  | .cond c x y, Q, s, h => by
    unfold awpW at h
    unfold awp
    split at h
    · rename_i t hc
      rw [hc]
      show if t = true then _ else _
      split at h
      · rename_i ht; rw [if_pos ht]; exact awpW_awp hP x Q s h
      · rename_i ht; rw [if_neg ht]; exact awpW_awp hP y Q s h
    · exact h.elim
  | .block id c, Q, s, h => by
    unfold awpW at h
    unfold awp
    exact awpW_awp hP c _ s h
  | .loop c, Q, s, h => by
    unfold awpW at h
    unfold awp
    obtain ⟨ι, inv, μ, h0, hround⟩ := h
    exact ⟨ι, inv, μ, h0, fun i => awpW_awp hP c _ _ (hround i)⟩
  | .exit id, Q, s, h => h
  | .ret, Q, s, h => h
  | .label _, _, _, h => (h : False).elim
  | .goto _, _, _, h => (h : False).elim
  | .scope _, _, _, h => (h : False).elim
  | .refuse _, _, _, h => (h : False).elim
  | .rangeFunc _ _ _ _, _, _, h => (h : False).elim

theorem aopE_mono {P : Program} {o : Oper} {s : St} {K K' : FP → St → Prop} (hk : ∀ f s, K f s → K' f s) (h : aopE P o s K) : aopE P o s K' := by
  unfold aopE at *
  split
  · rename_i hb; rw [if_pos hb] at h; exact aop_mono (fun s h => hk _ _ h) h
  · rename_i hb
    rw [if_neg hb] at h
    split
    · rename_i c hop
      simp only [hop] at h
      split
      · rename_i f ps hf
        simp only [hf] at h
        obtain ⟨h1, ps, lent, r, out, ι, T, h2, h3⟩ := h
        exact ⟨h1, ps, lent, r, out, ι, T, h2, hk _ _ h3⟩
      · rename_i hf; simp only [hf] at h
    · rename_i hne
      split at h
      · rename_i c hop; exact absurd hop (hne c)
      · exact h

theorem aopD_mono {P : Program} {ops : Array Oper} {o : Oper} {s : St} {K K' : FP → St → Prop} (hk : ∀ f s, K f s → K' f s) (h : aopD P ops o s K) : aopD P ops o s K' := by
  unfold aopD at *
  split
  · rename_i hg; rw [hg] at h; exact aopE_mono hk h
  · rename_i g want hg
    rw [hg] at h
    simp only at h
    split
    · rename_i b hb
      rw [hb] at h
      simp only at h
      split
      · rename_i hbw; rw [if_pos hbw] at h; exact aopE_mono hk h
      · rename_i hbw; rw [if_neg hbw] at h; exact ⟨h.1, hk _ _ h.2⟩
    · rename_i hb; rw [hb] at h; exact h

theorem aopsD_mono {P : Program} {ops : Array Oper} {n0 : Nat} {K K' : List FP → St → Prop} (hk : ∀ f s, K f s → K' f s) : ∀ (l : List Oper) (j : Nat) (acc : List FP) (s : St), aopsD P ops n0 K j l acc s → aopsD P ops n0 K' j l acc s
  | [], _, _, _, h => hk _ _ h
  | o :: l, j, acc, s, h => by
    unfold aopsD at *
    exact aopD_mono (fun f s h => aopsD_mono hk l _ _ _ h) h

theorem awpW_mono {P : Program} : ∀ (c : Code) (Q Q' : Exit → St → Prop) (s : St), (∀ e s, Q e s → Q' e s) → awpW P c Q s → awpW P c Q' s
  | .skip, Q, Q', s, hq, h => hq _ _ h
  | .region id ops draw, Q, Q', s, hq, h => by
    unfold awpW at *
    cases draw
    · exact aops_mono (hq .normal) _ _ h
    · exact aopsD_mono (fun f s h => ⟨h.1, hq _ _ h.2⟩) _ _ _ _ h
  | .seq x y, Q, Q', s, hq, h => by
    unfold awpW at *
    refine awpW_mono x _ _ s (fun e s h => ?_) h
    cases e with
    | normal => exact awpW_mono y _ _ s hq h
    | _ => exact hq _ _ h
  | .cond c x y, Q, Q', s, hq, h => by
    unfold awpW at *
    split
    · rename_i t hc
      rw [hc] at h
      simp only at h
      split
      · rename_i ht; rw [if_pos ht] at h; exact awpW_mono x _ _ s hq h
      · rename_i ht; rw [if_neg ht] at h; exact awpW_mono y _ _ s hq h
    · rename_i hne
      split at h
      · rename_i t hc; exact absurd hc (hne t)
      · exact h
  | .block id c, Q, Q', s, hq, h => by
    unfold awpW at *
    refine awpW_mono c _ _ s (fun e s h => ?_) h
    cases e with
    | exit id' => simp only [blockQ] at h ⊢; split <;> rename_i hid <;> simp only [hid, if_true, if_false] at h <;> exact hq _ _ h
    | _ => exact hq _ _ h
  | .loop c, Q, Q', s, hq, h => by
    unfold awpW at *
    obtain ⟨ι, inv, μ, h0, hround⟩ := h
    refine ⟨ι, inv, μ, h0, fun i => awpW_mono c _ _ _ (fun e s h => ?_) (hround i)⟩
    cases e with
    | normal => exact h
    | _ => exact hq _ _ h
  | .exit id, Q, Q', s, hq, h => hq _ _ h
  | .ret, Q, Q', s, hq, h => hq _ _ h
  | .label _, _, _, _, _, h => (h : False).elim
  | .goto _, _, _, _, _, h => (h : False).elim
  | .scope _, _, _, _, _, h => (h : False).elim
  | .refuse _, _, _, _, _, h => (h : False).elim
  | .rangeFunc _ _ _ _, _, _, _, _, h => (h : False).elim

/-- what is asked at a function's end -/
def FinR (P : Program) (rs : List ResultVar) (r : PV) (out : List Row) : Exit → St → Prop := fun e s =>
  match e with
  | .normal => ∃ p F ρ, evRes P s rs = some p ∧ Ent s F ρ s.N s.kl [] out ∧ frz s.rows F p = ren (fun i => ρ.getD i 0) r ∧ scB out.length r = true
  | .ret => ∃ p F ρ, evRes P s rs = some p ∧ Ent s F ρ s.N s.kl [] out ∧ frz s.rows F p = ren (fun i => ρ.getD i 0) r ∧ scB out.length r = true
  | _ => False

theorem AFun.of_walk {P : Program} (hP : P.follows .mixedOrders = true) {f : FuncId} {fn : Func} {c : Code} {ps : List PV} {lent : List Row} {r : PV} {out : List Row} {N : Nat} {rs : List ResultVar} (hf : P.funcs[f]? = some fn) (hb : fn.body = some c)
    (hN : fn.ntmps = N) (hrs : fn.results.toList = rs) (hn : ps.length ≤ N) (hsc : scBs lent.length ps = true) (h : awpW P c (FinR P rs r out) (mkSt N lent.length (argRegs 0 ps) lent)) : AFun P f ps lent r out := by
  subst hN; subst hrs
  exact AFun.of_awp hf hb hn hsc (awpW_awp hP c _ _ (awpW_mono c _ _ _ (fun e s h => by cases e <;> exact h) h))

section
variable {P : Program} {Q : Exit → St → Prop} {s : St}
def ALoopW (P : Program) (c : Code) (Q : Exit → St → Prop) (s : St) : Prop := aloop (awpW P c) Q s
theorem aw_skip : awpW P .skip Q s = Q .normal s := rfl
theorem aw_reg {id : Nat} {l : List Oper} : awpW P (.region id l.toArray false) Q s = aops P l.toArray (Q .normal) l s := rfl
def chkK (l : List Oper) (nx : Nat) (Q : Exit → St → Prop) (fs : List FP) (s' : St) : Prop := chk l.toArray nx fs.reverse = true ∧ Q .normal s'
theorem chkK_app {l : List Oper} {nx : Nat} {fs : List FP} {s' : St} : chkK l nx Q fs s' = (chk l.toArray nx fs.reverse = true ∧ Q .normal s') := rfl
theorem aw_regD {id : Nat} {l : List Oper} {N kl nx : Nat} {r : Nat → PV} {rows : Rows} : awpW P (.region id l.toArray true) Q ⟨N, kl, r, rows, nx⟩ =
    aopsD P l.toArray nx (chkK l nx Q) 0 l [] ⟨N, kl, r, rows, nx⟩ := rfl
theorem aw_seq {x y : Code} : awpW P (.seq x y) Q s = awpW P x (thenQ (awpW P y Q) Q) s := rfl
theorem aw_block {id : Nat} {c : Code} : awpW P (.block id c) Q s = awpW P c (blockQ id Q) s := rfl
theorem aw_loop {c : Code} : awpW P (.loop c) Q s = ALoopW P c Q s := rfl
theorem aw_exit {id : Nat} : awpW P (.exit id) Q s = Q (.exit id) s := rfl
theorem aw_ret : awpW P .ret Q s = Q .ret s := rfl
theorem aw_cond {c : Operand} {x y : Code} : awpW P (.cond c x y) Q s = (match ev s.regs c with
    | .d (.lit (.bool t)) => if t = true then awpW P x Q s else awpW P y Q s
    | _ => False) := rfl

variable {d : Option Nat} {t : TypeId} {pos : String} {af : Array Edge} {g : Option (Nat × Bool)} {op : Op} {ops : Array Oper} {n0 j : Nat} {KD : List FP → St → Prop} {acc : List FP} {rest : List Oper} {KF : FP → St → Prop} {N kl nx : Nat} {r : Nat → PV} {rows : Rows}
theorem aopsD_nil : aopsD P ops n0 KD j [] acc s = KD acc s := rfl
def aopsK (P : Program) (ops : Array Oper) (n0 : Nat) (KD : List FP → St → Prop) (j : Nat) (rest : List Oper) (acc : List FP) (f : FP) (s' : St) : Prop := aopsD P ops n0 KD j rest (f :: acc) ⟨s'.N, s'.kl, s'.regs, s'.rows, n0 + 64 * j⟩
theorem aopsK_app {f : FP} {nx' : Nat} : aopsK P ops n0 KD j rest acc f ⟨N, kl, r, rows, nx'⟩ = aopsD P ops n0 KD j rest (f :: acc) ⟨N, kl, r, rows, n0 + 64 * j⟩ := rfl
theorem aopsD_cons : aopsD P ops n0 KD j (⟨d, op, t, pos, af, none⟩ :: rest) acc s = aopE P ⟨d, op, t, pos, af, none⟩ s (aopsK P ops n0 KD (j + 1) rest acc) := rfl
theorem aopsD_guard {k : Nat} {want : Bool} : aopsD P ops n0 KD j (⟨d, op, t, pos, af, some (k, want)⟩ :: rest) acc s = (match yieldP ops s k want with
    | some b => if b = true then aopE P ⟨d, op, t, pos, af, some (k, want)⟩ s (aopsK P ops n0 KD (j + 1) rest acc)
      else dlt d s.N ∧ aopsK P ops n0 KD (j + 1) rest acc ⟨[], [], []⟩ (s.put d undP)
    | none => False) := by
  rw [← dlt_eq]
  show (match yieldP ops s k want with | some b => _ | none => False) = _
  cases yieldP ops s k want <;> rfl
def aopF (KF : FP → St → Prop) (o : Oper) (s s' : St) : Prop := KF (fpB o s s') s'
theorem aopF_app {o : Oper} {s' : St} : aopF KF o s s' = KF (fpB o s s') s' := rfl
theorem aopE_b (h : isB op = true) : aopE P ⟨d, op, t, pos, af, g⟩ s KF = aop P ⟨d, op, t, pos, af, g⟩ s (aopF KF ⟨d, op, t, pos, af, g⟩ s) := by
  unfold aopE; simp only [h, if_true]; rfl
def aopG (KF : FP → St → Prop) (s : St) (d : Option Nat) (fp : FP) (r : PV) (rows' : Rows) : Prop := KF fp ({ s with rows := rows' }.put d r)
theorem aopG_app {fp : FP} {p : PV} {rows' : Rows} : aopG KF ⟨N, kl, r, rows, nx⟩ d fp p rows' = KF fp ((⟨N, kl, r, rows', nx⟩ : St).put d p) := rfl
theorem aopE_call {x : Operand} {args : Array Operand} {ts : Array TypeId} : aopE P ⟨d, .call { callee := .value x, args := args, argTypes := ts }, t, pos, af, g⟩ s KF = (match ev s.regs x with
    | .clo (.func f) first cap => dlt d s.N ∧ ACallD P f (first ++ args.toList.map (ev s.regs) ++ cap) s.rows s.nx (aopG KF s d)
    | _ => False) := by
  unfold aopE
  simp only [isB, calleeOf, dlt_eq]
  cases hx : ev s.regs x with
  | clo fn f c => cases fn <;> rfl
  | _ => rfl
def aopH (K : St → Prop) (s : St) (d : Option Nat) (p : PV) (rows' : Rows) (nx' : Nat) : Prop := K ({ s with rows := rows', nx := nx' }.put d p)
theorem aopH_app {K : St → Prop} {p : PV} {rows' : Rows} {nx' : Nat} : aopH K ⟨N, kl, r, rows, nx⟩ d p rows' nx' = K ((⟨N, kl, r, rows', nx'⟩ : St).put d p) := rfl
theorem aop_callH {x : Operand} {args : Array Operand} {ts : Array TypeId} {K : St → Prop} : aop P ⟨d, .call { callee := .value x, args := args, argTypes := ts }, t, pos, af, g⟩ s K = (match ev s.regs x with
    | .clo (.func f) first cap => isFn P f = true ∧ dlt d s.N ∧ ACall P f (first ++ args.toList.map (ev s.regs) ++ cap) s.rows s.nx (aopH K s d)
    | _ => False) := aop_call
theorem fpB_some {d : Nat} {s' : St} : fpB ⟨some d, op, t, pos, af, g⟩ s s' = ⟨irO s.regs op, iwO s.nx s.regs op, ids (s'.regs d) ++ (iwO s.nx s.regs op).flatMap fun i => idsRow (s'.rows i)⟩ := rfl
theorem fpB_none {s' : St} : fpB ⟨none, op, t, pos, af, g⟩ s s' = ⟨irO s.regs op, iwO s.nx s.regs op, (iwO s.nx s.regs op).flatMap fun i => idsRow (s'.rows i)⟩ := rfl

theorem aop_min {x y : Operand} {ts : Array TypeId} {K : St → Prop} : aop P ⟨d, .call { callee := .builtin .min, args := #[x, y], argTypes := ts }, t, pos, af, g⟩ s K = (match ev s.regs x, ev s.regs y with
    | .d (.lit (.int k m)), .d (.lit (.int _ n)) => K1 s d True (.d (.lit (.int k (if n < m then n else m)))) K
    | _, _ => False) := by
  simp only [aop, evOp]
  cases hx : ev s.regs x with
  | d x => cases x with
    | lit v => cases v with
      | int k m => cases hy : ev s.regs y with
        | d y => cases y with
          | lit v => cases v <;> rfl
          | _ => rfl
        | _ => rfl
      | _ => cases ev s.regs y <;> rfl
    | _ => cases ev s.regs y <;> rfl
  | _ => cases ev s.regs y <;> rfl
theorem aop_max {x y : Operand} {ts : Array TypeId} {K : St → Prop} : aop P ⟨d, .call { callee := .builtin .max, args := #[x, y], argTypes := ts }, t, pos, af, g⟩ s K = (match ev s.regs x, ev s.regs y with
    | .d (.lit (.int k m)), .d (.lit (.int _ n)) => K1 s d True (.d (.lit (.int k (if m < n then n else m)))) K
    | _, _ => False) := by
  simp only [aop, evOp]
  cases hx : ev s.regs x with
  | d x => cases x with
    | lit v => cases v with
      | int k m => cases hy : ev s.regs y with
        | d y => cases y with
          | lit v => cases v <;> rfl
          | _ => rfl
        | _ => rfl
      | _ => cases ev s.regs y <;> rfl
    | _ => cases ev s.regs y <;> rfl
  | _ => cases ev s.regs y <;> rfl
theorem aop_index {u : TypeId} {x y : Operand} {K : St → Prop} : aop P ⟨d, .index u x y, t, pos, af, g⟩ s K = (match ev s.regs x, ev s.regs y with
    | .d (.lit (.string str)), .d (.lit (.int _ n)) => if tyIs P u TK.isStr then K1 s d (0 ≤ n ∧ n < str.size) (.d (.lit (.int .u8 (str.data.toList.getD n.toNat 0).toNat))) K else False
    | _, _ => False) := by
  simp only [aop, evOp]
  cases hx : ev s.regs x with
  | d x => cases x with
    | lit v => cases v with
      | string k => cases hy : ev s.regs y with
        | d y => cases y with
          | lit v => cases v with
            | int k n => by_cases h : tyIs P u TK.isStr = true <;> simp only [h, if_true] <;> rfl
            | _ => rfl
          | _ => rfl
        | _ => rfl
      | _ => cases ev s.regs y <;> rfl
    | _ => cases ev s.regs y <;> rfl
  | _ => cases ev s.regs y <;> rfl
end

/-- a call in a region by the callee's contract -/
theorem ACallD.of {P : Program} {f : FuncId} {ps : List PV} {lent : List Row} {r : PV} {out : List Row} (h : AFun P f ps lent r out) (hf : isFn P f = true) {rows : Rows} {m : Nat} (ι T : List Nat) {ps' : List PV} {K : FP → PV → Rows → Prop}
    (hι : ι.length = lent.length) (hout : lent.length ≤ out.length) (hk : out.length - lent.length ≤ 64) (hnd : ι.Nodup) (hlt : ∀ i ∈ ι, i < m) (hargs : argsOk rows T (sig ι m) ps' ps) (hlent : lentOk rows T (sig ι m) 0 lent)
    (hT : T = [] ∨ (nvP r ∧ ∀ row ∈ out, nvRow row)) (hr : scB out.length r = true) (ho : out.all (scRow out.length) = true) (hl : lent.all (scRow lent.length) = true) (hp : scBs lent.length ps = true)
    (hK : K (fpC ι T m r out) (ren (sig ι m) r) (updRows rows (plc (sig ι m) 0 out))) : ACallD P f ps' rows m K :=
  ⟨ps, lent, r, out, ι, T, ⟨hf, h, hι, hout, hk, hnd, hlt, hargs, hlent, hT, hr, ho, hl, hp⟩, hK⟩

/-- a call by the callee's contract -/
theorem ACall.of {P : Program} {f : FuncId} {ps : List PV} {lent : List Row} {r : PV} {out : List Row} (h : AFun P f ps lent r out) {rows : Rows} {nx : Nat} (ι T : List Nat) {ps' : List PV} {K : PV → Rows → Nat → Prop}
    (hι : ι.length = lent.length) (hout : lent.length ≤ out.length) (hnd : ι.Nodup) (hlt : ∀ i ∈ ι, i < nx) (hargs : argsOk rows T (sig ι nx) ps' ps) (hlent : lentOk rows T (sig ι nx) 0 lent)
    (hT : T = [] ∨ (nvP r ∧ ∀ row ∈ out, nvRow row)) (hK : K (ren (sig ι nx) r) (updRows rows (plc (sig ι nx) 0 out)) (nx + (out.length - lent.length))) : ACall P f ps' rows nx K :=
  (h.call ι T hι hout hnd hlt hargs hlent hT).mono fun _ _ _ ⟨h1, h2, h3⟩ => by rw [h1, h2, h3]; exact hK

theorem frzRows_C (rows : Rows) (F : List Nat) (i : Nat) : RowC (rows i) (frzRows rows F i) := by
  simp only [frzRows]
  split
  · cases rows i <;> simp [RowC]
  · cases rows i <;> simp [RowC, frzRow]

/-- rows F frozen ahead of a call -/
theorem ACall.frz {P : Program} {f : FuncId} {ps' : List PV} {rows : Rows} {nx : Nat} {K : PV → Rows → Nat → Prop} (F : List Nat) (h : ACall P f (frzs rows F ps') (frzRows rows F) nx K) : ACall P f ps' rows nx K := by
  intro B β X w vs hm hp hs
  refine (h B β (frzX rows β X F) w vs (hm.freeze F) (repPs_frz hm ps' vs hp) (Scs_frz ps' hs)).mono ?_
  rintro e w' ⟨v, r, rows', nx', β', X', h1, h2, h3, h4, h5, h6, h7⟩
  refine ⟨v, r, rows', nx', β', X', h1, h2, h3, h4, h5, h6, fun p u hsp hpu => h7 p u hsp ?_⟩
  exact repP_mono (S := fun _ => True) (fun b hb hx => ⟨rfl, fun hx' => hx hx'.1⟩) (fun i _ => ⟨frzRows_C rows F i, fun _ => rfl⟩) p u (Sc.mono (fun _ _ => trivial) p hsp) hpu

theorem frzRows_app (rows : Rows) (F : List Nat) (i : Nat) : frzRows rows F i = if i ∈ F then .dead else frzRow rows F (rows i) := rfl

/-- an empty slice, nil or not -/
theorem AFun.nil0 {P : Program} {f : FuncId} {ps : List PV} {lent : List Row} {r : PV} {out : List Row} (sz : Nat) (h : ∀ a cap, AFun P f (.d (.lit (.slice a 0 cap)) :: ps) lent r out) : AFun P f (.d (.sl sz []) :: ps) lent r out := by
  intro B β X w vs hk h0 hm hp
  unfold repPs at hp
  obtain ⟨u, us, rfl, h1, h2⟩ := hp
  unfold repP rep at h1
  obtain ⟨a, cap, vs, h3, _⟩ := h1
  refine h a cap B β X w _ hk h0 hm ?_
  unfold repPs
  refine ⟨u, us, rfl, ?_, h2⟩
  unfold repP rep
  exact h3

/-- less is told of what is handed back -/
theorem AFun.weaken {P : Program} {f : FuncId} {ps : List PV} {lent : List Row} {r r' : PV} {out : List Row} (h : AFun P f ps lent r out) (hs : Sc (· < out.length) r')
    (hr : ∀ rows β w X v, repP rows β w X r v → repP rows β w X r' v) : AFun P f ps lent r' out := by
  intro B β X w vs hk h0 hm hp
  refine (h B β X w vs hk h0 hm hp).mono ?_
  rintro e w' ⟨v, β', X', h1, h2, h3, h4⟩
  exact ⟨v, β', X', h1, h2, hr _ _ _ _ _ h3, hs⟩

theorem nil_sl (sz : Nat) (rows : Rows) (β : Nat → Loc) (w : World) (X : Nat → Prop) (v : Value) (h : repP rows β w X (.d (.lit (.slice none 0 0))) v) : repP rows β w X (.d (.sl sz [])) v := by
  unfold repP rep at *
  subst h
  exact ⟨none, 0, [], rfl, by simp, by simp [maxLen], by simp [repss], fun h => absurd rfl h⟩

theorem beqT (b : Bool) : (b == true) = b := by cases b <;> rfl
theorem beqF (b : Bool) : (b == false) = !b := by cases b <;> rfl

/-- a nil slice is an empty row of one's own -/
theorem Sat.ghost {B : Base} {a : Act} {w : World} {s : St} (t sz : Nat) (h : s.regs t = .d (.lit (.slice none 0 0))) (hs : Sat B s a w) :
    Sat B ⟨s.N, s.kl, upd s.regs t (.own s.nx), upd s.rows s.nx (.own sz []), s.nx + 1⟩ a w := by
  obtain ⟨β, X, hr⟩ := hs
  have hk := KeepX.refl w X
  have hC : ∀ i, i < s.nx → RowC (s.rows i) (upd s.rows s.nx (.own sz []) i) ∧ (upd s.rows s.nx (.own sz []) i ≠ .dead → upd β s.nx ⟨none, 0⟩ i = β i) := fun i hi => by
    rw [upd_ne _ _ (by omega), upd_ne _ _ (by omega)]; exact ⟨RowC.refl _, fun _ => rfl⟩
  refine ⟨upd β s.nx ⟨none, 0⟩, X, hr.mem.new0 none sz, hr.defers, hr.size, hr.kl, fun i => ?_, fun i => ?_⟩
  · show repP _ _ _ _ (upd s.regs t (.own s.nx) i) _
    by_cases hi : i = t
    · subst hi
      rw [upd_same]
      have := hr.rg i
      rw [h] at this
      have hv : a.tmps.getD i undef = .slice none 0 0 := by simpa [repP, rep] using this
      rw [hv]
      unfold repP
      intro sz' el he
      have he' : upd s.rows s.nx (.own sz []) s.nx = .own sz' el := he
      rw [upd_same] at he'
      cases he'
      rw [upd_same]; rfl
    · rw [upd_ne _ _ hi]; exact repP_mono hk hC _ _ (hr.sc i) (hr.rg i)
  · show Sc (· < s.nx + 1) (upd s.regs t (.own s.nx) i)
    by_cases hi : i = t
    · subst hi; rw [upd_same]; show s.nx < s.nx + 1; omega
    · rw [upd_ne _ _ hi]; exact Sc.mono (fun _ k => by omega) _ (hr.sc i)

theorem ALoopW.ghost {P : Program} {c : Code} {Q : Exit → St → Prop} {s : St} (t sz : Nat) (h : s.regs t = .d (.lit (.slice none 0 0)))
    (hk : ALoopW P c Q ⟨s.N, s.kl, upd s.regs t (.own s.nx), upd s.rows s.nx (.own sz []), s.nx + 1⟩) : ALoopW P c Q s := by
  obtain ⟨ι, inv, μ, ⟨i, hi⟩, hr⟩ := hk
  exact ⟨ι, inv, μ, ⟨i, fun B a w hs => hi B a w (hs.ghost t sz h)⟩, hr⟩

theorem ALoopW.intro {P : Program} {c : Code} {Q : Exit → St → Prop} {s : St} {ι : Type} (N kl : Nat) (R : ι → List (Nat × PV)) (W : ι → List Row) (μ : ι → Nat) (i : ι) (F ρ : List Nat) (h0 : Ent s F ρ N kl (R i) (W i))
    (hr : ∀ i, awpW P c (thenQ (fun s' => ∃ j F ρ, Ent s' F ρ N kl (R j) (W j) ∧ μ j < μ i) Q) (mkSt N kl (R i) (W i))) : ALoopW P c Q s := by
  refine ⟨ι, fun i => mkSt N kl (R i) (W i), μ, ⟨i, fun _ _ _ h => h0.sat h⟩, fun i => ?_⟩
  have := hr i
  refine awpW_mono _ _ _ _ (fun e s h => ?_) this
  cases e with
  | normal => obtain ⟨j, F, ρ, h1, h2⟩ := h; exact ⟨j, fun _ _ _ h => h1.sat h, h2⟩
  | _ => exact h
end Go.AM
