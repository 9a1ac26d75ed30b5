/- Proved here: a part of an abstract machine for the walks of this program, and that it tells the truth about the model. No condition. -/
import Derived.Test.YtjaklhbifgbiaaaAmR
set_option linter.unusedSimpArgs false
set_option linter.unusedVariables false
namespace Go.AM
open Go

/-! ## functions -/
/-- the function f, of ps, with the rows 'lent' of its caller's: hands back r, and leaves the rows 'out' (the lent ones first) -/
def AFun (P : Program) (f : FuncId) (ps : List PV) (lent : List Row) (r : PV) (out : List Row) : Prop :=
  ∀ B β X w vs, B.kl = lent.length → B.rows0 = lrows lent → Mem B β X w (lrows lent) lent.length → repPs (lrows lent) β w X ps vs →
    Calls P f vs.toArray w fun e w' => ∃ v β' X', e = .returned v ∧ Mem B β' X' w' (lrows out) out.length ∧ repP (lrows out) β' w' X' r v ∧ Sc (· < out.length) r

def evRV (P : Program) (s : St) : ResultVar → Option PV
  | .tmp t => some (s.regs t)
  | .cell t ty => match s.regs t with | .ptr i off => if alive (s.rows i) then evLoad P s.rows ty (.ptr i off) else none | _ => none

def evRVs (P : Program) (s : St) : List ResultVar → Option (List PV)
  | [] => some []
  | r :: rs => match evRV P s r, evRVs P s rs with
    | some p, some ps => some (p :: ps)
    | _, _ => none

def evRes (P : Program) (s : St) (rs : List ResultVar) : Option PV :=
  match evRVs P s rs with
  | some [p] => some p
  | some ps => some (.tup ps)
  | none => none

def resV (tmps : Array Value) : ResultVar → Sem Value
  | .tmp t => pure (tmps.getD t undef)
  | .cell a t => do loadVar t (← asAddr (tmps.getD a undef))

theorem results_eq (fn : Func) (tmps : Array Value) : results fn tmps = (do
    let vs ← fn.results.mapM (resV tmps)
    pure (if h : vs.size = 1 then vs[0] else .tuple vs)) := by
  unfold results
  congr 1

theorem evRV_ok {P : Program} {B : Base} {β : Nat → Loc} {X : Nat → Prop} {w : World} {a : Act} {s : St} (hr : SRel B β X w a s) {rv : ResultVar} {p : PV} (h : evRV P s rv = some p) :
    ∃ v, (resV a.tmps rv).run P w = .ok v w ∧ repP s.rows β w X p v ∧ Sc (· < s.nx) p := by
  cases rv with
  | tmp t =>
    simp only [evRV, Option.some.injEq] at h; subst h
    exact ⟨_, rfl, hr.rg t, hr.sc t⟩
  | cell t ty =>
    simp only [evRV] at h
    split at h
    · rename_i i off ht
      split at h
      · rename_i hal
        have hx := hr.rg t
        rw [ht] at hx
        obtain ⟨u, h1, h2, h3⟩ := evLoad_ok hr.mem hx h
        have hx' := hx
        unfold repP at hx'
        obtain ⟨b, _, hb⟩ := hx' (fun e => by rw [e] at hal; simp [alive] at hal)
        refine ⟨u, ?_, h2, h3⟩
        rw [hb] at h1
        simp only [resV, hb]
        simpa [Instr.loadAt, Instr.sureAddr, asAddr] using h1
      · cases h
    · cases h

theorem evRVs_ok {P : Program} {B : Base} {β : Nat → Loc} {X : Nat → Prop} {w : World} {a : Act} {s : St} (hr : SRel B β X w a s) : ∀ {rs : List ResultVar} {ps : List PV}, evRVs P s rs = some ps →
    ∃ vs : List Value, (rs.mapM (m := Sem) (resV a.tmps)).run P w = .ok vs w ∧ repPs s.rows β w X ps vs ∧ Scs (· < s.nx) ps
  | [], ps, h => by simp only [evRVs, Option.some.injEq] at h; subst h; exact ⟨[], rfl, by simp [repPs], trivial⟩
  | r :: rs, ps, h => by
    simp only [evRVs] at h
    split at h
    · rename_i p ps' hp hps
      simp only [Option.some.injEq] at h; subst h
      obtain ⟨v, h1, h2, h3⟩ := evRV_ok hr hp
      obtain ⟨vs, g1, g2, g3⟩ := evRVs_ok hr hps
      refine ⟨v :: vs, ?_, ?_, h3, g3⟩
      · simp only [List.mapM_cons, Sem.run_bind]
        rw [h1]
        simp only [Result.andThen_ok, g1, Sem.run_pure]
      · unfold repPs; exact ⟨v, vs, rfl, h2, g2⟩
    · cases h

theorem evRes_ok {P : Program} {B : Base} {β : Nat → Loc} {X : Nat → Prop} {w : World} {a : Act} {s : St} (hr : SRel B β X w a s) {fn : Func} {p : PV} (h : evRes P s fn.results.toList = some p) :
    ∃ v, (results fn a.tmps).run P w = .ok v w ∧ repP s.rows β w X p v ∧ Sc (· < s.nx) p := by
  unfold evRes at h
  split at h
  · rename_i q hq
    simp only [Option.some.injEq] at h; subst h
    obtain ⟨vs, h1, h2, h3⟩ := evRVs_ok hr hq
    unfold repPs at h2
    obtain ⟨u, us, rfl, g1, g2⟩ := h2
    unfold repPs at g2
    subst g2
    refine ⟨u, ?_, g1, h3.1⟩
    simp only [results_eq, Array.mapM_eq_mapM_toList, Sem.run_bind, Sem.run_map]
    rw [h1]
    simp
  · rename_i ps hne hq
    simp only [Option.some.injEq] at h; subst h
    obtain ⟨vs, h1, h2, h3⟩ := evRVs_ok hr hq
    refine ⟨.tuple vs.toArray, ?_, by unfold repP; exact ⟨vs, rfl, h2⟩, h3⟩
    have hl := repPs_length h2
    have hn1 : ¬ vs.toArray.size = 1 := by
      intro h1'
      simp only [List.size_toArray] at h1'
      rw [hl] at h1'
      match ps, h1' with
      | [q], _ => exact hne q rfl
    simp only [results_eq, Array.mapM_eq_mapM_toList, Sem.run_bind, Sem.run_map]
    rw [h1]
    simp only [Result.andThen_ok, Sem.run_pure, hn1, dif_neg, not_false_iff]
  · cases h

def argRegs : Nat → List PV → List (Nat × PV)
  | _, [] => []
  | k, p :: ps => (k, p) :: argRegs (k + 1) ps

/-- what is asked at a function's end -/
def FinQ (P : Program) (fn : Func) (r : PV) (out : List Row) : Exit → St → Prop := fun e s =>
  match e with
  | .normal => ∃ p F ρ, evRes P s fn.results.toList = some p ∧ Ent s F ρ s.N s.kl [] out ∧ frz s.rows F p = ren (fun i => ρ.getD i 0) r ∧ scB out.length r = true
  | .ret => ∃ p F ρ, evRes P s fn.results.toList = some p ∧ Ent s F ρ s.N s.kl [] out ∧ frz s.rows F p = ren (fun i => ρ.getD i 0) r ∧ scB out.length r = true
  | _ => False

theorem lk_argRegs {rows : Rows} {β : Nat → Loc} {w : World} {X : Nat → Prop} : ∀ {ps : List PV} {vs : List Value} (k : Nat) (rest : List Value), repPs rows β w X ps vs → ∀ t, repP rows β w X (lk (argRegs k ps) t) (((vs ++ rest)[t - k]?).getD undef)
  | [], vs, k, rest, _, t => by simp [argRegs, lk, repP]
  | p :: ps, vs, k, rest, h, t => by
    unfold repPs at h
    obtain ⟨u, us, rfl, h1, h2⟩ := h
    simp only [argRegs, lk]
    by_cases ht : t = k
    · subst ht; simp; exact h1
    · rw [if_neg ht]
      have := lk_argRegs (k + 1) rest h2 t
      rcases Nat.lt_or_ge t k with hlt | hge
      · have hany : ∀ (ps : List PV) (k : Nat), t < k → lk (argRegs k ps) t = .any := by
          intro ps
          induction ps with
          | nil => intro k _; rfl
          | cons q ps ih => intro k hk; simp only [argRegs, lk]; rw [if_neg (by omega)]; exact ih (k + 1) (by omega)
        rw [hany ps (k + 1) (by omega)]
        simp [repP]
      · have e : t - k = (t - (k + 1)) + 1 := by omega
        rw [e, List.cons_append, List.getElem?_cons_succ]
        exact this

theorem Sc_argRegs {n : Nat} : ∀ {ps : List PV} (k t : Nat), scBs n ps = true → Sc (· < n) (lk (argRegs k ps) t)
  | [], k, t, _ => trivial
  | p :: ps, k, t, h => by
    simp only [scBs, Bool.and_eq_true] at h
    simp only [argRegs, lk]
    split
    · exact scB_ok p h.1
    · exact Sc_argRegs (k + 1) t h.2

theorem AFun.of_awp {P : Program} {f : FuncId} {fn : Func} {c : Code} {ps : List PV} {lent : List Row} {r : PV} {out : List Row} (hf : P.funcs[f]? = some fn) (hb : fn.body = some c)
    (hn : ps.length ≤ fn.ntmps) (hsc : scBs lent.length ps = true) (h : awp P c (FinQ P fn r out) (mkSt fn.ntmps lent.length (argRegs 0 ps) lent)) : AFun P f ps lent r out := by
  intro B β X w vs hk _ hm hp
  have hlen := repPs_length hp
  refine calls_of_wp hf hb ?_
  have hs : Sat B (mkSt fn.ntmps lent.length (argRegs 0 ps) lent) { tmps := vs.toArray ++ Array.replicate (fn.ntmps - vs.toArray.size) undef, defers := [] } w := by
    refine ⟨β, X, hm, rfl, ?_, hk.symm, fun t => ?_, fun t => Sc_argRegs 0 t hsc⟩
    · simp [mkSt, hlen]; omega
    · have := lk_argRegs 0 (List.replicate (fn.ntmps - vs.length) undef) hp t
      simp only [Nat.sub_zero] at this
      show repP (lrows lent) β w X (lk (argRegs 0 ps) t) _
      rw [Array.getD_eq_getD_getElem?]
      have e : (vs.toArray ++ Array.replicate (fn.ntmps - vs.toArray.size) undef)[t]? = (vs ++ List.replicate (fn.ntmps - vs.length) undef)[t]? := by
        rw [← Array.getElem?_toList]; simp
      rw [e]; exact this
  refine wp_mono (awp_sound c _ _ _ w h hs) fun e a w' ⟨s', ⟨β', X', hr⟩, hq⟩ => ?_
  have fin : (∃ p F ρ, evRes P s' fn.results.toList = some p ∧ Ent s' F ρ s'.N s'.kl [] out ∧ frz s'.rows F p = ren (fun i => ρ.getD i 0) r ∧ scB out.length r = true) →
      a.defers = [] ∧ ∃ v, (results fn a.tmps).run P w' = .ok v w' ∧ ∃ v' β' X', Ending.returned v = .returned v' ∧ Mem B β' X' w' (lrows out) out.length ∧ repP (lrows out) β' w' X' r v' ∧ Sc (· < out.length) r := by
    rintro ⟨p, F, ρ, h1, h2, h3, h4⟩
    obtain ⟨v, g1, g2, g3⟩ := evRes_ok hr h1
    obtain ⟨β2, X2, m1, m2⟩ := h2.core hr
    exact ⟨hr.defers, v, g1, v, β2, X2, rfl, m1, m2 p r v g2 h3, scB_ok r h4⟩
  cases e with
  | normal => exact fin hq
  | ret => exact fin hq
  | _ => exact hq.elim
end Go.AM
