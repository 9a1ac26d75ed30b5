/- Proved here: code and functions of an abstract machine tell the truth about the model. No condition. -/
import Derived.Test.YtldckdbdgbpmpaaAmQ
set_option linter.unusedSimpArgs false
set_option linter.unusedVariables false
namespace Go.AM
open Go

/-! ## code -/
/-- a region whose order is drawn: whatever the order, it comes to one state -/
def aregD (P : Program) (ops : Array Oper) (Q : St → Prop) (s : St) : Prop :=
  ∃ s', Q s' ∧ ∀ (B : Base) (a : Act) (w : World) (id : Nat) (Qx : Exit → Act → World → Prop), Sat B s a w → (∀ a w, Sat B s' a w → Qx .normal a w) → (Code.region id ops true).wp P Qx a w

def thenQ (K : St → Prop) (Q : Exit → St → Prop) : Exit → St → Prop
  | .normal, s => K s
  | e, s => Q e s

def blockQ (id : Nat) (Q : Exit → St → Prop) : Exit → St → Prop
  | .exit id', s => if id' = id then Q .normal s else Q (.exit id') s
  | e, s => Q e s

/-- a loop's own words: what holds at each round's head, and how far it is from its end -/
def aloop (body : (Exit → St → Prop) → St → Prop) (Q : Exit → St → Prop) (s : St) : Prop :=
  ∃ (ι : Type) (inv : ι → St) (μ : ι → Nat), (∃ i, ∀ B a w, Sat B s a w → Sat B (inv i) a w) ∧
    ∀ i, body (thenQ (fun s' => ∃ j, (∀ B a w, Sat B s' a w → Sat B (inv j) a w) ∧ μ j < μ i) Q) (inv i)

def awp (P : Program) : Code → (Exit → St → Prop) → St → Prop
  | .skip, Q, s => Q .normal s
  | .region _ ops draw, Q, s => if draw then aregD P ops (Q .normal) s else aops P ops (Q .normal) ops.toList s
  | .seq x y, Q, s => awp P x (thenQ (awp P y Q) Q) s
  | .cond c x y, Q, s => match ev s.regs c with
    | .d (.lit (.bool t)) => if t = true then awp P x Q s else awp P y Q s
    | _ => False
  | .block id c, Q, s => awp P c (blockQ id Q) s
  | .loop c, Q, s => aloop (awp P c) Q s
  | .exit id, Q, s => Q (.exit id) s
  | .ret, Q, s => Q .ret s
  | _, _, _ => False

def liftQ (B : Base) (Q : Exit → St → Prop) : Exit → Act → World → Prop := fun e a w => ∃ s, Sat B s a w ∧ Q e s

theorem wp_loop_ix {P : Program} {c : Code} {ι : Type} (I : ι → Act → World → Prop) (μ : ι → Nat) {Q : Exit → Act → World → Prop} {i : ι} {a : Act} {w : World} (h₀ : I i a w)
    (round : ∀ i a w, I i a w → c.wp P (Exit.then (fun a' w' => ∃ j, I j a' w' ∧ μ j < μ i) Q) a w) : (Code.loop c).wp P Q a w := by
  intro b k cs
  have key : ∀ n i a w, μ i = n → I i a w →
      ∃ e a' w', Q e a' w' ∧ Arrives P (lone (b.at a (.code c :: .inLoop c :: k)) cs w) b k cs e a' w' := by
    intro n
    induction n using Nat.strongRecOn with
    | _ n ih =>
      intro i a w hn hI
      obtain ⟨e, a₁, w₁, hq, harr⟩ := round i a w hI b (.inLoop c :: k) cs
      cases e with
      | normal =>
        obtain ⟨j, hI₁, hlt⟩ := hq
        obtain ⟨e₂, a₂, w₂, hq₂, harr₂⟩ := ih (μ j) (hn ▸ hlt) j a₁ w₁ rfl hI₁
        exact ⟨e₂, a₂, w₂, hq₂, .of_steps (Steps.trans harr (.one step_inLoop)) harr₂⟩
      | exit id => exact ⟨_, a₁, w₁, hq, .pass (x := .inLoop c) rfl (fun _ _ => .inl (by simp)) harr⟩
      | goto l => exact ⟨_, a₁, w₁, hq, .pass (x := .inLoop c) rfl (fun _ _ => .inl (by simp)) harr⟩
      | ret => exact ⟨_, a₁, w₁, hq, .pass (x := .inLoop c) rfl (fun _ _ => .inl (by simp)) harr⟩
      | panic ch => exact ⟨_, a₁, w₁, hq, .pass (x := .inLoop c) rfl (fun _ _ => .inl (by simp)) harr⟩
      | outgrown => exact ⟨_, a₁, w₁, hq, .pass (x := .inLoop c) rfl (fun _ _ => .inl (by simp)) harr⟩
  obtain ⟨e, a', w', hq, harr⟩ := key _ i a w rfl h₀
  exact ⟨e, a', w', hq, .of_steps (.one step_loop) harr⟩

theorem awp_sound {P : Program} {B : Base} : ∀ (c : Code) (Q : Exit → St → Prop) (s : St) (a : Act) (w : World), awp P c Q s → Sat B s a w → c.wp P (liftQ B Q) a w
  | .skip, Q, s, a, w, h, hs => wp_skip ⟨s, hs, h⟩
  | .region id ops draw, Q, s, a, w, h, hs => by
    unfold awp at h
    cases draw with
    | true =>
      obtain ⟨s', h1, h2⟩ := h
      exact h2 B a w id _ hs fun a w hs' => ⟨s', hs', h1⟩
    | false =>
      refine wp_region_list ?_
      exact aops_sound (fun s a w hq hs => ⟨s, hs, hq⟩) ops.toList s a w h hs
  | .seq x y, Q, s, a, w, h, hs => by
    unfold awp at h
    refine wp_seq (wp_mono (awp_sound x _ s a w h hs) fun e a w ⟨s', hs', hq⟩ => ?_)
    cases e with
    | normal => exact awp_sound y Q s' a w hq hs'
    | _ => exact ⟨s', hs', hq⟩
  | .cond c x y, Q, s, a, w, h, hs => by
    unfold awp at h
    split at h
    · rename_i t hc
      obtain ⟨β, X, hr⟩ := hs
      refine wp_cond (t := t) (hr.lit hc) ?_
      cases t
      · exact awp_sound y Q s a w h ⟨β, X, hr⟩
      · exact awp_sound x Q s a w h ⟨β, X, hr⟩
    · exact h.elim
  | .block id c, Q, s, a, w, h, hs => by
    unfold awp at h
    refine wp_block (wp_mono (awp_sound c _ s a w h hs) fun e a w ⟨s', hs', hq⟩ => ?_)
    cases e with
    | exit id' =>
      simp only [Exit.inBlock, blockQ] at hq ⊢
      split at hq <;> (rename_i hid; simp only [hid, if_true, if_false]) <;> exact ⟨s', hs', hq⟩
    | _ => exact ⟨s', hs', hq⟩
  | .loop c, Q, s, a, w, h, hs => by
    unfold awp at h
    obtain ⟨ι, inv, μ, ⟨i0, h0⟩, hround⟩ := h
    refine wp_loop_ix (fun i a w => Sat B (inv i) a w) μ (h0 B a w hs) fun i a w hi => ?_
    refine wp_mono (awp_sound c _ (inv i) a w (hround i) hi) fun e a w ⟨s', hs', hq⟩ => ?_
    cases e with
    | normal =>
      obtain ⟨j, hj, hlt⟩ := hq
      exact ⟨j, hj B a w hs', hlt⟩
    | _ => exact ⟨s', hs', hq⟩
  | .exit id, Q, s, a, w, h, hs => wp_exit ⟨s, hs, h⟩
  | .ret, Q, s, a, w, h, hs => wp_ret ⟨s, hs, h⟩
  | .label _, _, _, _, _, h, _ => (h : False).elim
  | .goto _, _, _, _, _, h, _ => (h : False).elim
  | .scope _, _, _, _, _, h, _ => (h : False).elim
  | .refuse _, _, _, _, _, h, _ => (h : False).elim
  | .rangeFunc _ _ _ _, _, _, _, _, h, _ => (h : False).elim
end Go.AM

namespace Go.AM
open Go

/-! ## functions -/
/-- the function f, of ps, with the rows 'lent' of its caller's: hands back r, and leaves the rows 'out' (the lent ones first) -/
def AFun (P : Program) (f : FuncId) (ps : List PV) (lent : List Row) (r : PV) (out : List Row) : Prop :=
  ∀ B β X w vs, B.kl = lent.length → B.rows0 = lrows lent → Mem B β X w (lrows lent) lent.length → repPs (lrows lent) β w X ps vs →
    Calls P f vs.toArray w fun e w' => ∃ v β' X', e = .returned v ∧ Mem B β' X' w' (lrows out) out.length ∧ repP (lrows out) β' w' X' r v ∧ Sc (· < out.length) r

def evRV (P : Program) (s : St) : ResultVar → Option PV
  | .tmp t => some (s.regs t)
  | .cell t ty => match s.regs t with | .ptr i off => if alive (s.rows i) then evLoad P s.rows ty (.ptr i off) else none | _ => none

def evRVs (P : Program) (s : St) : List ResultVar → Option (List PV)
  | [] => some []
  | r :: rs => match evRV P s r, evRVs P s rs with
    | some p, some ps => some (p :: ps)
    | _, _ => none

def evRes (P : Program) (s : St) (rs : List ResultVar) : Option PV :=
  match evRVs P s rs with
  | some [p] => some p
  | some ps => some (.tup ps)
  | none => none

def resV (tmps : Array Value) : ResultVar → Sem Value
  | .tmp t => pure (tmps.getD t undef)
  | .cell a t => do loadVar t (← asAddr (tmps.getD a undef))

theorem results_eq (fn : Func) (tmps : Array Value) : results fn tmps = (do
    let vs ← fn.results.mapM (resV tmps)
    pure (if h : vs.size = 1 then vs[0] else .tuple vs)) := by
  unfold results
  congr 1

theorem evRV_ok {P : Program} {B : Base} {β : Nat → Loc} {X : Nat → Prop} {w : World} {a : Act} {s : St} (hr : SRel B β X w a s) {rv : ResultVar} {p : PV} (h : evRV P s rv = some p) :
    ∃ v, (resV a.tmps rv).run P w = .ok v w ∧ repP s.rows β w X p v ∧ Sc (· < s.nx) p := by
  cases rv with
  | tmp t =>
    simp only [evRV, Option.some.injEq] at h; subst h
    exact ⟨_, rfl, hr.rg t, hr.sc t⟩
  | cell t ty =>
    simp only [evRV] at h
    split at h
    · rename_i i off ht
      split at h
      · rename_i hal
        have hx := hr.rg t
        rw [ht] at hx
        obtain ⟨u, h1, h2, h3⟩ := evLoad_ok hr.mem hx h
        have hx' := hx
        unfold repP at hx'
        obtain ⟨b, _, hb⟩ := hx' (fun e => by rw [e] at hal; simp [alive] at hal)
        refine ⟨u, ?_, h2, h3⟩
        rw [hb] at h1
        simp only [resV, hb]
        simpa [Instr.loadAt, Instr.sureAddr, asAddr] using h1
      · cases h
    · cases h

theorem evRVs_ok {P : Program} {B : Base} {β : Nat → Loc} {X : Nat → Prop} {w : World} {a : Act} {s : St} (hr : SRel B β X w a s) : ∀ {rs : List ResultVar} {ps : List PV}, evRVs P s rs = some ps →
    ∃ vs : List Value, (rs.mapM (m := Sem) (resV a.tmps)).run P w = .ok vs w ∧ repPs s.rows β w X ps vs ∧ Scs (· < s.nx) ps
  | [], ps, h => by simp only [evRVs, Option.some.injEq] at h; subst h; exact ⟨[], rfl, by simp [repPs], trivial⟩
  | r :: rs, ps, h => by
    simp only [evRVs] at h
    split at h
    · rename_i p ps' hp hps
      simp only [Option.some.injEq] at h; subst h
      obtain ⟨v, h1, h2, h3⟩ := evRV_ok hr hp
      obtain ⟨vs, g1, g2, g3⟩ := evRVs_ok hr hps
      refine ⟨v :: vs, ?_, ?_, h3, g3⟩
      · simp only [List.mapM_cons, Sem.run_bind]
        rw [h1]
        simp only [Result.andThen_ok, g1, Sem.run_pure]
      · unfold repPs; exact ⟨v, vs, rfl, h2, g2⟩
    · cases h

theorem evRes_ok {P : Program} {B : Base} {β : Nat → Loc} {X : Nat → Prop} {w : World} {a : Act} {s : St} (hr : SRel B β X w a s) {fn : Func} {p : PV} (h : evRes P s fn.results.toList = some p) :
    ∃ v, (results fn a.tmps).run P w = .ok v w ∧ repP s.rows β w X p v ∧ Sc (· < s.nx) p := by
  unfold evRes at h
  split at h
  · rename_i q hq
    simp only [Option.some.injEq] at h; subst h
    obtain ⟨vs, h1, h2, h3⟩ := evRVs_ok hr hq
    unfold repPs at h2
    obtain ⟨u, us, rfl, g1, g2⟩ := h2
    unfold repPs at g2
    subst g2
    refine ⟨u, ?_, g1, h3.1⟩
    simp only [results_eq, Array.mapM_eq_mapM_toList, Sem.run_bind, Sem.run_map]
    rw [h1]
    simp
  · rename_i ps hne hq
    simp only [Option.some.injEq] at h; subst h
    obtain ⟨vs, h1, h2, h3⟩ := evRVs_ok hr hq
    refine ⟨.tuple vs.toArray, ?_, by unfold repP; exact ⟨vs, rfl, h2⟩, h3⟩
    have hl := repPs_length h2
    have hn1 : ¬ vs.toArray.size = 1 := by
      intro h1'
      simp only [List.size_toArray] at h1'
      rw [hl] at h1'
      match ps, h1' with
      | [q], _ => exact hne q rfl
    simp only [results_eq, Array.mapM_eq_mapM_toList, Sem.run_bind, Sem.run_map]
    rw [h1]
    simp only [Result.andThen_ok, Sem.run_pure, hn1, dif_neg, not_false_iff]
  · cases h

def argRegs : Nat → List PV → List (Nat × PV)
  | _, [] => []
  | k, p :: ps => (k, p) :: argRegs (k + 1) ps

/-- what is asked at a function's end -/
def FinQ (P : Program) (fn : Func) (r : PV) (out : List Row) : Exit → St → Prop := fun e s =>
  match e with
  | .normal => ∃ p F ρ, evRes P s fn.results.toList = some p ∧ Ent s F ρ s.N s.kl [] out ∧ frz s.rows F p = ren (fun i => ρ.getD i 0) r ∧ scB out.length r = true
  | .ret => ∃ p F ρ, evRes P s fn.results.toList = some p ∧ Ent s F ρ s.N s.kl [] out ∧ frz s.rows F p = ren (fun i => ρ.getD i 0) r ∧ scB out.length r = true
  | _ => False

theorem lk_argRegs {rows : Rows} {β : Nat → Loc} {w : World} {X : Nat → Prop} : ∀ {ps : List PV} {vs : List Value} (k : Nat) (rest : List Value), repPs rows β w X ps vs → ∀ t, repP rows β w X (lk (argRegs k ps) t) (((vs ++ rest)[t - k]?).getD undef)
  | [], vs, k, rest, _, t => by simp [argRegs, lk, repP]
  | p :: ps, vs, k, rest, h, t => by
    unfold repPs at h
    obtain ⟨u, us, rfl, h1, h2⟩ := h
    simp only [argRegs, lk]
    by_cases ht : t = k
    · subst ht; simp; exact h1
    · rw [if_neg ht]
      have := lk_argRegs (k + 1) rest h2 t
      rcases Nat.lt_or_ge t k with hlt | hge
      · have hany : ∀ (ps : List PV) (k : Nat), t < k → lk (argRegs k ps) t = .any := by
          intro ps
          induction ps with
          | nil => intro k _; rfl
          | cons q ps ih => intro k hk; simp only [argRegs, lk]; rw [if_neg (by omega)]; exact ih (k + 1) (by omega)
        rw [hany ps (k + 1) (by omega)]
        simp [repP]
      · have e : t - k = (t - (k + 1)) + 1 := by omega
        rw [e, List.cons_append, List.getElem?_cons_succ]
        exact this

theorem Sc_argRegs {n : Nat} : ∀ {ps : List PV} (k t : Nat), scBs n ps = true → Sc (· < n) (lk (argRegs k ps) t)
  | [], k, t, _ => trivial
  | p :: ps, k, t, h => by
    simp only [scBs, Bool.and_eq_true] at h
    simp only [argRegs, lk]
    split
    · exact scB_ok p h.1
    · exact Sc_argRegs (k + 1) t h.2

theorem AFun.of_awp {P : Program} {f : FuncId} {fn : Func} {c : Code} {ps : List PV} {lent : List Row} {r : PV} {out : List Row} (hf : P.funcs[f]? = some fn) (hb : fn.body = some c)
    (hn : ps.length ≤ fn.ntmps) (hsc : scBs lent.length ps = true) (h : awp P c (FinQ P fn r out) (mkSt fn.ntmps lent.length (argRegs 0 ps) lent)) : AFun P f ps lent r out := by
  intro B β X w vs hk _ hm hp
  have hlen := repPs_length hp
  refine calls_of_wp hf hb ?_
  have hs : Sat B (mkSt fn.ntmps lent.length (argRegs 0 ps) lent) { tmps := vs.toArray ++ Array.replicate (fn.ntmps - vs.toArray.size) undef, defers := [] } w := by
    refine ⟨β, X, hm, rfl, ?_, hk.symm, fun t => ?_, fun t => Sc_argRegs 0 t hsc⟩
    · simp [mkSt, hlen]; omega
    · have := lk_argRegs 0 (List.replicate (fn.ntmps - vs.length) undef) hp t
      simp only [Nat.sub_zero] at this
      show repP (lrows lent) β w X (lk (argRegs 0 ps) t) _
      rw [Array.getD_eq_getD_getElem?]
      have e : (vs.toArray ++ Array.replicate (fn.ntmps - vs.toArray.size) undef)[t]? = (vs ++ List.replicate (fn.ntmps - vs.length) undef)[t]? := by
        rw [← Array.getElem?_toList]; simp
      rw [e]; exact this
  refine wp_mono (awp_sound c _ _ _ w h hs) fun e a w' ⟨s', ⟨β', X', hr⟩, hq⟩ => ?_
  have fin : (∃ p F ρ, evRes P s' fn.results.toList = some p ∧ Ent s' F ρ s'.N s'.kl [] out ∧ frz s'.rows F p = ren (fun i => ρ.getD i 0) r ∧ scB out.length r = true) →
      a.defers = [] ∧ ∃ v, (results fn a.tmps).run P w' = .ok v w' ∧ ∃ v' β' X', Ending.returned v = .returned v' ∧ Mem B β' X' w' (lrows out) out.length ∧ repP (lrows out) β' w' X' r v' ∧ Sc (· < out.length) r := by
    rintro ⟨p, F, ρ, h1, h2, h3, h4⟩
    obtain ⟨v, g1, g2, g3⟩ := evRes_ok hr h1
    obtain ⟨β2, X2, m1, m2⟩ := h2.core hr
    exact ⟨hr.defers, v, g1, v, β2, X2, rfl, m1, m2 p r v g2 h3, scB_ok r h4⟩
  cases e with
  | normal => exact fin hq
  | ret => exact fin hq
  | _ => exact hq.elim
end Go.AM

namespace Go.AM
open Go

/-! ## a call by a function's own contract -/
/-- from the callee's numbers to the caller's -/
def sig (ι : List Nat) (nx : Nat) (j : Nat) : Nat := if j < ι.length then ι.getD j 0 else nx + (j - ι.length)

def plc (σ : Nat → Nat) : Nat → List Row → List (Nat × Row)
  | _, [] => []
  | j, r :: rs => (σ j, renRow σ r) :: plc σ (j + 1) rs

def nvD : DV → Prop
  | .lit _ => True
  | .sl _ _ => False
  | .agg _ => False

def nvP : PV → Prop
  | .d x => nvD x
  | .own _ => True
  | .win _ _ _ => True
  | .ptr _ _ => True
  | .mp _ => True
  | .eptr _ _ _ => True
  | .iptr _ => False
  | .clo _ _ _ => False
  | .ifc _ _ => False
  | .agg _ => False
  | .tup ps => nvPs ps
  | .any => True
where nvPs : List PV → Prop
  | [] => True
  | p :: ps => nvP p ∧ nvPs ps

def nvRow : Row → Prop
  | .dead => True
  | .box cells => ∀ p ∈ cells, nvP p
  | .own _ el => ∀ e ∈ el, ∀ x ∈ e, nvD x
  | .iter _ _ => True
  | .map _ _ ents => ∀ e ∈ ents, nvP e.2.2
  | .itm _ _ _ _ => True

/-- what a caller may hand over where the callee wants p: T: rows that are only read meanwhile -/
def argOk (rows : Rows) (T : List Nat) (σ : Nat → Nat) (p' p : PV) : Prop :=
  p' = ren σ p ∨ match p with
    | .d (.sl sz el) => (match p' with
      | .own i => (match rows i with
        | .own sz' el' => Row.own sz' el' = .own sz el ∧ i ∈ T
        | .box cells => (match allD cells with | some ds => sz = 1 ∧ el = ds.map (fun d => [d]) ∧ i ∈ T | none => False)
        | _ => False)
      | .win i off m => (match rows i with
        | .own sz' el' => sz' = sz ∧ el = (el'.drop off).take m ∧ i ∈ T
        | .box cells => (match allD ((cells.drop off).take m) with | some ds => sz = 1 ∧ ds.length = m ∧ el = ds.map (fun d => [d]) ∧ i ∈ T | none => False)
        | _ => False)
      | .d (.lit (.slice none 0 0)) => el = []
      | _ => False)
    | _ => False

def argsOk (rows : Rows) (T : List Nat) (σ : Nat → Nat) : List PV → List PV → Prop
  | [], [] => True
  | p' :: ps', p :: ps => argOk rows T σ p' p ∧ argsOk rows T σ ps' ps
  | _, _ => False

def lentOk (rows : Rows) (T : List Nat) (σ : Nat → Nat) : Nat → List Row → Prop
  | _, [] => True
  | j, r :: rs => rows (σ j) = renRow σ r ∧ r ≠ .dead ∧ σ j ∉ T ∧ lentOk rows T σ (j + 1) rs

theorem lentOk_get {rows : Rows} {T : List Nat} {σ : Nat → Nat} : ∀ {k : Nat} {rs : List Row}, lentOk rows T σ k rs → ∀ j r, rs[j]? = some r → rows (σ (k + j)) = renRow σ r ∧ r ≠ .dead ∧ σ (k + j) ∉ T
  | k, [], _, j, r, hj => by simp at hj
  | k, r0 :: rs, h, j, r, hj => by
    unfold lentOk at h
    cases j with
    | zero => simp at hj; subst hj; exact ⟨h.1, h.2.1, h.2.2.1⟩
    | succ j =>
      have := lentOk_get h.2.2.2 j r (by simpa using hj)
      rwa [show k + 1 + j = k + (j + 1) from by omega] at this

theorem updRows_notin : ∀ (l : List (Nat × Row)) (rows : Rows) (i : Nat), (∀ x ∈ l, x.1 ≠ i) → updRows rows l i = rows i
  | [], rows, i, _ => rfl
  | (j, r) :: l, rows, i, h => by
    unfold updRows
    rw [updRows_notin l _ i fun x hx => h x (by simp [hx]), upd_ne _ _ (Ne.symm (h (j, r) (by simp)))]

theorem updRows_plc {σ : Nat → Nat} : ∀ (rs : List Row) (rows : Rows) (k : Nat) (j : Nat), (∀ a b, k ≤ a → a < k + rs.length → k ≤ b → b < k + rs.length → σ a = σ b → a = b) → j < rs.length →
    updRows rows (plc σ k rs) (σ (k + j)) = renRow σ (rs.getD j .dead)
  | [], rows, k, j, _, hj => by simp at hj
  | r :: rs, rows, k, j, hinj, hj => by
    simp only [plc, updRows]
    cases j with
    | zero =>
      rw [updRows_notin _ _ _ ?_]
      · simp [upd_same]
      · intro x hx
        have aux : ∀ (rs : List Row) (k' : Nat), x ∈ plc σ k' rs → ∃ a, k' ≤ a ∧ a < k' + rs.length ∧ x.1 = σ a := by
          intro rs
          induction rs with
          | nil => intro k' hx; simp [plc] at hx
          | cons r rs ih =>
            intro k' hx
            simp only [plc, List.mem_cons] at hx
            rcases hx with hx | hx
            · exact ⟨k', Nat.le_refl _, by simp, by rw [hx]⟩
            · obtain ⟨a, h1, h2, h3⟩ := ih (k' + 1) hx
              exact ⟨a, by omega, by simp; omega, h3⟩
        obtain ⟨a, h1, h2, h3⟩ := aux rs (k + 1) hx
        rw [h3]
        intro e
        have := hinj a k (by omega) (by simp; omega) (by omega) (by simp) (by simpa using e)
        omega
    | succ j =>
      have := updRows_plc rs (upd rows (σ k) (renRow σ r)) (k + 1) j (fun a b h1 h2 h3 h4 => hinj a b (by omega) (by simp; omega) (by omega) (by simp; omega)) (by simpa using hj)
      rw [show k + (j + 1) = k + 1 + j from by omega, this]
      simp

theorem plc_mem {σ : Nat → Nat} {x : Nat × Row} : ∀ (rs : List Row) (k' : Nat), x ∈ plc σ k' rs → ∃ a, k' ≤ a ∧ a < k' + rs.length ∧ x.1 = σ a
  | [], k', hx => by simp [plc] at hx
  | r :: rs, k', hx => by
    simp only [plc, List.mem_cons] at hx
    rcases hx with hx | hx
    · exact ⟨k', Nat.le_refl _, by simp, by rw [hx]⟩
    · obtain ⟨a, h1, h2, h3⟩ := plc_mem rs (k' + 1) hx
      exact ⟨a, by omega, by simp; omega, h3⟩

/-! ### renaming forth -/
theorem rep_nv {w w' : World} {X X' : Nat → Prop} {x : DV} {v : Value} (h : nvD x) (hr : rep w X x v) : rep w' X' x v := by
  cases x with
  | lit u => unfold rep at *; exact hr
  | sl sz el => exact h.elim
  | agg cs => exact h.elim

theorem reps_nv {w w' : World} {X X' : Nat → Prop} : ∀ {xs : List DV} {vs : List Value}, (∀ x ∈ xs, nvD x) → reps w X xs vs → reps w' X' xs vs
  | [], vs, _, h => by unfold reps at *; exact h
  | c :: cs, vs, hn, h => by
    unfold reps at *
    obtain ⟨u, us, h1, h2, h3, h4⟩ := h
    exact ⟨u, us, h1, h2, rep_nv (hn c (by simp)) h3, reps_nv (fun x hx => hn x (by simp [hx])) h4⟩

theorem repss_nv {w w' : World} {X X' : Nat → Prop} {sz : Nat} : ∀ {el : List (List DV)} {vs : List Value}, (∀ e ∈ el, ∀ x ∈ e, nvD x) → repss w X sz el vs → repss w' X' sz el vs
  | [], vs, _, h => by unfold repss at *; exact h
  | e :: el, vs, hn, h => by
    unfold repss at *
    obtain ⟨us, ws, h1, h2, h3, h4⟩ := h
    exact ⟨us, ws, h1, h2, reps_nv (hn e (by simp)) h3, repss_nv (fun e' he => hn e' (by simp [he])) h4⟩

section
variable {rows rows2 : Rows} {β β2 : Nat → Loc} {w : World} {X X2 : Nat → Prop} {σ : Nat → Nat} {m : Nat}

mutual
/-- with the same world outside: T empty -/
theorem repP_ren (hx : ∀ b, X2 b → X b) (hr : ∀ j, j < m → rows2 (σ j) = renRow σ (rows j) ∧ (rows j ≠ .dead → β2 (σ j) = β j)) : ∀ (p : PV) (v : Value), Sc (· < m) p → repP rows β w X p v → repP rows2 β2 w X2 (ren σ p) v
  | .d x, v, _, h => by unfold ren; unfold repP at *; exact rep_mono (fun _ _ h1 => ⟨rfl, fun h2 => h1 (hx _ h2)⟩) x v h
  | .own i, v, hs, h => by
    unfold ren; unfold repP at *
    obtain ⟨h1, h2⟩ := hr i hs
    refine ⟨?_, ?_⟩
    · intro sz el hi
      rw [h1] at hi
      cases hri : rows i with
      | own sz' el' => rw [hri] at hi; simp only [renRow, Row.own.injEq] at hi; obtain ⟨rfl, rfl⟩ := hi; rw [h2 (by rw [hri]; simp)]; exact h.1 _ _ hri
      | _ => rw [hri] at hi; simp [renRow] at hi
    · intro cells hi
      rw [h1] at hi
      cases hri : rows i with
      | box c0 => rw [hri] at hi; simp only [renRow, Row.box.injEq] at hi; subst hi; rw [rens_length, h2 (by rw [hri]; simp)]; exact h.2 c0 hri
      | _ => rw [hri] at hi; simp [renRow] at hi
  | .win i off k, v, hs, h => by
    unfold ren; unfold repP at *
    obtain ⟨h1, h2⟩ := hr i hs
    refine ⟨?_, ?_⟩
    · intro sz el hi
      rw [h1] at hi
      cases hri : rows i with
      | own sz' el' => rw [hri] at hi; simp only [renRow, Row.own.injEq] at hi; obtain ⟨rfl, rfl⟩ := hi; rw [h2 (by rw [hri]; simp)]; exact h.1 _ _ hri
      | _ => rw [hri] at hi; simp [renRow] at hi
    · intro cells hi
      rw [h1] at hi
      cases hri : rows i with
      | box c0 => rw [h2 (by rw [hri]; simp)]; exact h.2 c0 hri
      | _ => rw [hri] at hi; simp [renRow] at hi
  | .ptr i off, v, hs, h => by
    unfold ren; unfold repP at *
    obtain ⟨h1, h2⟩ := hr i hs
    intro hi
    have hd : rows i ≠ .dead := fun e => hi (by rw [h1, e]; rfl)
    rw [h2 hd]; exact h hd
  | .mp i, v, hs, h => by
    unfold ren; unfold repP at *
    obtain ⟨h1, h2⟩ := hr i hs
    intro hi
    have hd : rows i ≠ .dead := fun e => hi (by rw [h1, e]; rfl)
    rw [h2 hd]; exact h hd
  | .eptr i k c, v, hs, h => by
    unfold ren; unfold repP at *
    obtain ⟨h1, h2⟩ := hr i hs
    intro sz el hi
    rw [h1] at hi
    cases hri : rows i with
    | own sz' el' => rw [hri] at hi; simp only [renRow, Row.own.injEq] at hi; obtain ⟨rfl, rfl⟩ := hi; rw [h2 (by rw [hri]; simp)]; exact h _ _ hri
    | _ => rw [hri] at hi; simp [renRow] at hi
  | .iptr cs, v, _, h => by
    unfold ren; unfold repP at *
    obtain ⟨b, off, vs, h1, h2, h3, h4, h5⟩ := h
    exact ⟨b, off, vs, h1, reps_mono (fun _ _ h1 => ⟨rfl, fun h2 => h1 (hx _ h2)⟩) cs vs h2, h3, fun h => h4 (hx _ h), h5⟩
  | .clo fn f c, v, hs, h => by
    unfold ren; unfold repP at *
    obtain ⟨fs, cs, h1, h2, h3⟩ := h
    exact ⟨fs, cs, h1, repPs_ren hx hr f fs hs.1 h2, repPs_ren hx hr c cs hs.2 h3⟩
  | .ifc t x, v, hs, h => by
    unfold ren; unfold repP at *
    obtain ⟨u, h1, h2⟩ := h
    exact ⟨u, h1, repP_ren hx hr x u hs h2⟩
  | .agg ps, v, hs, h => by
    unfold ren; unfold repP at *
    obtain ⟨vs, h1, h2, h3⟩ := h
    exact ⟨vs, h1, repPs_ren hx hr ps vs hs h2, h3⟩
  | .tup ps, v, hs, h => by
    unfold ren; unfold repP at *
    obtain ⟨vs, h1, h2⟩ := h
    exact ⟨vs, h1, repPs_ren hx hr ps vs hs h2⟩
  | .any, v, _, h => by simp [ren, repP]
theorem repPs_ren (hx : ∀ b, X2 b → X b) (hr : ∀ j, j < m → rows2 (σ j) = renRow σ (rows j) ∧ (rows j ≠ .dead → β2 (σ j) = β j)) : ∀ (ps : List PV) (vs : List Value), Scs (· < m) ps → repPs rows β w X ps vs → repPs rows2 β2 w X2 (rens σ ps) vs
  | [], vs, _, h => by unfold rens; simpa [repPs] using h
  | c :: cs, vs, hs, h => by
    unfold rens; unfold repPs at *
    obtain ⟨u, us, h1, h2, h3⟩ := h
    exact ⟨u, us, h1, repP_ren hx hr c u hs.1 h2, repPs_ren hx hr cs us hs.2 h3⟩
end
mutual
/-- without views: whatever X -/
theorem repP_ren' (hr : ∀ j, j < m → rows2 (σ j) = renRow σ (rows j) ∧ (rows j ≠ .dead → β2 (σ j) = β j)) : ∀ (p : PV) (v : Value), nvP p → Sc (· < m) p → repP rows β w X p v → repP rows2 β2 w X2 (ren σ p) v
  | .d x, v, hn, _, h => by unfold ren; unfold repP at *; exact rep_nv hn h
  | .own i, v, _, hs, h => by
    have := repP_ren (X2 := X) (fun _ h => h) hr (.own i) v hs h
    unfold ren at *; unfold repP at *; exact this
  | .win i off k, v, _, hs, h => by
    have := repP_ren (X2 := X) (fun _ h => h) hr (.win i off k) v hs h
    unfold ren at *; unfold repP at *; exact this
  | .ptr i off, v, _, hs, h => by
    have := repP_ren (X2 := X) (fun _ h => h) hr (.ptr i off) v hs h
    unfold ren at *; unfold repP at *; exact this
  | .mp i, v, _, hs, h => by
    have := repP_ren (X2 := X) (fun _ h => h) hr (.mp i) v hs h
    unfold ren at *; unfold repP at *; exact this
  | .eptr i k c, v, _, hs, h => by
    have := repP_ren (X2 := X) (fun _ h => h) hr (.eptr i k c) v hs h
    unfold ren at *; unfold repP at *; exact this
  | .iptr cs, v, hn, _, h => hn.elim
  | .clo fn f c, v, hn, hs, h => hn.elim
  | .ifc t x, v, hn, hs, h => hn.elim
  | .agg ps, v, hn, hs, h => hn.elim
  | .tup ps, v, hn, hs, h => by
    unfold ren; unfold repP at *
    obtain ⟨vs, h1, h2⟩ := h
    exact ⟨vs, h1, repPs_ren' hr ps vs hn hs h2⟩
  | .any, v, _, _, h => by simp [ren, repP]
theorem repPs_ren' (hr : ∀ j, j < m → rows2 (σ j) = renRow σ (rows j) ∧ (rows j ≠ .dead → β2 (σ j) = β j)) : ∀ (ps : List PV) (vs : List Value), nvP.nvPs ps → Scs (· < m) ps → repPs rows β w X ps vs → repPs rows2 β2 w X2 (rens σ ps) vs
  | [], vs, _, _, h => by unfold rens; simpa [repPs] using h
  | c :: cs, vs, hn, hs, h => by
    unfold rens; unfold repPs at *
    obtain ⟨u, us, h1, h2, h3⟩ := h
    exact ⟨u, us, h1, repP_ren' hr c u hn.1 hs.1 h2, repPs_ren' hr cs us hn.2 hs.2 h3⟩
end
end

theorem nvPs_of_mem : ∀ {ps : List PV}, (∀ p ∈ ps, nvP p) → nvP.nvPs ps
  | [], _ => trivial
  | p :: ps, h => ⟨h p (by simp), nvPs_of_mem fun q hq => h q (by simp [hq])⟩

mutual
theorem Sc_ren {S : Nat → Prop} {σ : Nat → Nat} {m : Nat} (hσ : ∀ j, j < m → S (σ j)) : ∀ p, Sc (· < m) p → Sc S (ren σ p)
  | .d _, _ => trivial
  | .own i, h => hσ i h
  | .win i _ _, h => hσ i h
  | .ptr i _, h => hσ i h
  | .mp i, h => hσ i h
  | .eptr i _ _, h => hσ i h
  | .iptr _, _ => trivial
  | .clo _ f c, h => ⟨Scs_ren hσ f h.1, Scs_ren hσ c h.2⟩
  | .ifc _ x, h => Sc_ren hσ x h
  | .agg ps, h => Scs_ren hσ ps h
  | .tup ps, h => Scs_ren hσ ps h
  | .any, _ => trivial
theorem Scs_ren {S : Nat → Prop} {σ : Nat → Nat} {m : Nat} (hσ : ∀ j, j < m → S (σ j)) : ∀ ps, Scs (· < m) ps → Scs S (rens σ ps)
  | [], _ => trivial
  | p :: ps, h => ⟨Sc_ren hσ p h.1, Scs_ren hσ ps h.2⟩
end

section
variable {rows rows2 : Rows} {β β2 : Nat → Loc} {w : World} {X X2 : Nat → Prop} {σ : Nat → Nat} {m : Nat}
theorem repEs_ren (hx : ∀ b, X2 b → X b) (hr : ∀ j, j < m → rows2 (σ j) = renRow σ (rows j) ∧ (rows j ≠ .dead → β2 (σ j) = β j)) : ∀ (ents : List (MKey × Nat × PV)) (es : List MapEntry), (∀ e ∈ ents, Sc (· < m) e.2.2) →
    repEs rows β w X ents es → repEs rows2 β2 w X2 (ents.map fun e => (e.1, e.2.1, ren σ e.2.2)) es
  | [], es, _, h => h
  | (k, n, p) :: l, es, hs, h => by
    obtain ⟨e, es', h1, h2, h3, h4, h5⟩ := h
    exact ⟨e, es', h1, h2, h3, repP_ren hx hr p _ (hs (k, n, p) List.mem_cons_self) h4, repEs_ren hx hr l es' (fun x hx => hs x (List.mem_cons_of_mem _ hx)) h5⟩
theorem repEs_ren' (hr : ∀ j, j < m → rows2 (σ j) = renRow σ (rows j) ∧ (rows j ≠ .dead → β2 (σ j) = β j)) : ∀ (ents : List (MKey × Nat × PV)) (es : List MapEntry), (∀ e ∈ ents, nvP e.2.2) → (∀ e ∈ ents, Sc (· < m) e.2.2) →
    repEs rows β w X ents es → repEs rows2 β2 w X2 (ents.map fun e => (e.1, e.2.1, ren σ e.2.2)) es
  | [], es, _, _, h => h
  | (k, n, p) :: l, es, hn, hs, h => by
    obtain ⟨e, es', h1, h2, h3, h4, h5⟩ := h
    exact ⟨e, es', h1, h2, h3, repP_ren' hr p _ (hn (k, n, p) List.mem_cons_self) (hs (k, n, p) List.mem_cons_self) h4, repEs_ren' hr l es' (fun x hx => hn x (List.mem_cons_of_mem _ hx)) (fun x hx => hs x (List.mem_cons_of_mem _ hx)) h5⟩
end
theorem rowSc_ren {S : Nat → Prop} {σ : Nat → Nat} {m : Nat} (hσ : ∀ j, j < m → S (σ j)) : ∀ r, rowSc (· < m) r → rowSc S (renRow σ r)
  | .box cells, h => Scs_ren hσ cells h
  | .map _ _ ents, h => fun e he => by
    obtain ⟨x, hx, rfl⟩ := List.mem_map.1 he
    exact Sc_ren hσ _ (h x hx)
  | .itm src _ _ _, h => hσ src h
  | .dead, _ => trivial
  | .own _ _, _ => trivial
  | .iter _ _, _ => trivial
end Go.AM

namespace Go.AM
open Go

theorem argOk_rep {B : Base} {β : Nat → Loc} {X : Nat → Prop} {w : World} {rows : Rows} {nx : Nat} {T : List Nat} {σ : Nat → Nat} {lent : List Row} (hm : Mem B β X w rows nx)
    (hr : ∀ i, RowIs σ (rows (σ i)) (lrows lent i)) {p' p : PV} {v : Value} (h : argOk rows T σ p' p) (hp : repP rows β w X p' v) :
    repP (lrows lent) (fun i => β (σ i)) w (frzX rows β X T) p v := by
  have hkx : ∀ q u, repP (lrows lent) (fun i => β (σ i)) w X q u → repP (lrows lent) (fun i => β (σ i)) w (frzX rows β X T) q u := fun q u hq =>
    repP_mono (S := fun _ => True) (fun _ _ hx => ⟨rfl, fun hx' => hx hx'.1⟩) (fun i _ => ⟨RowC.refl _, fun _ => rfl⟩) q u (Sc_true q) hq
  rcases h with rfl | h
  · exact hkx _ _ (repP_unren hr p v hp)
  · split at h
    · rename_i sz el
      unfold repP
      split at h
      · rename_i i
        split at h
        · rename_i sz' el' hri
          obtain ⟨he, hi⟩ := h
          exact viewX_ok hm hi (.inl rfl) hp (by simp only [viewOf, hri]; cases he; rfl)
        · rename_i cells hri
          split at h
          · rename_i ds hds
            obtain ⟨rfl, rfl, hi⟩ := h
            exact viewX_ok hm hi (.inl rfl) hp (by simp [viewOf, hri, hds])
          · exact h.elim
        · exact h.elim
      · rename_i i off m
        split at h
        · rename_i sz' el' hri
          obtain ⟨rfl, rfl, hi⟩ := h
          exact viewX_ok hm hi (.inr ⟨off, m, rfl⟩) hp (by simp [viewOf, hri])
        · rename_i cells hri
          split at h
          · rename_i ds hds
            obtain ⟨rfl, hl, rfl, hi⟩ := h
            exact viewX_ok hm hi (.inr ⟨off, m, rfl⟩) hp (by simp [viewOf, hri, hds, hl])
          · exact h.elim
        · exact h.elim
      · subst h
        unfold repP rep at hp
        subst hp
        unfold rep
        exact ⟨none, 0, [], rfl, by simp, by simp, by simp [repss], fun h => absurd rfl h⟩
      · exact h.elim
    · exact h.elim
where
  Sc_true : ∀ p : PV, Sc (fun _ => True) p := fun p => by
    have aux : (∀ p : PV, Sc (fun _ => True) p) ∧ (∀ ps : List PV, Scs (fun _ => True) ps) := by
      constructor
      · intro p
        exact PV.rec (motive_1 := fun p => Sc (fun _ => True) p) (motive_2 := fun ps => Scs (fun _ => True) ps)
          (fun _ => trivial) (fun _ => trivial) (fun _ _ _ => trivial) (fun _ _ => trivial) (fun _ => trivial) (fun _ _ _ => trivial) (fun _ => trivial)
          (fun _ _ _ h1 h2 => ⟨h1, h2⟩) (fun _ _ h => h) (fun _ h => h) (fun _ h => h) trivial trivial (fun _ _ h1 h2 => ⟨h1, h2⟩) p
      · intro ps
        induction ps with
        | nil => trivial
        | cons p ps ih => exact ⟨PV.rec (motive_1 := fun p => Sc (fun _ => True) p) (motive_2 := fun ps => Scs (fun _ => True) ps)
          (fun _ => trivial) (fun _ => trivial) (fun _ _ _ => trivial) (fun _ _ => trivial) (fun _ => trivial) (fun _ _ _ => trivial) (fun _ => trivial)
          (fun _ _ _ h1 h2 => ⟨h1, h2⟩) (fun _ _ h => h) (fun _ h => h) (fun _ h => h) trivial trivial (fun _ _ h1 h2 => ⟨h1, h2⟩) p, ih⟩
    exact aux.1 p

theorem argsOk_rep {B : Base} {β : Nat → Loc} {X : Nat → Prop} {w : World} {rows : Rows} {nx : Nat} {T : List Nat} {σ : Nat → Nat} {lent : List Row} (hm : Mem B β X w rows nx)
    (hr : ∀ i, RowIs σ (rows (σ i)) (lrows lent i)) : ∀ {ps' ps : List PV} {vs : List Value}, argsOk rows T σ ps' ps → repPs rows β w X ps' vs →
    repPs (lrows lent) (fun i => β (σ i)) w (frzX rows β X T) ps vs
  | [], [], vs, _, hp => by simpa [repPs] using hp
  | p' :: ps', p :: ps, vs, h, hp => by
    unfold repPs at hp ⊢
    obtain ⟨u, us, h1, h2, h3⟩ := hp
    exact ⟨u, us, h1, argOk_rep hm hr h.1 h2, argsOk_rep hm hr h.2 h3⟩
  | [], _ :: _, _, h, _ => h.elim
  | _ :: _, [], _, h, _ => h.elim

mutual
theorem Sc_unren {S : Nat → Prop} {σ : Nat → Nat} {m : Nat} (hσ : ∀ j, S (σ j) → j < m) : ∀ p, Sc S (ren σ p) → Sc (· < m) p
  | .d _, _ => trivial
  | .own i, h => hσ i h
  | .win i _ _, h => hσ i h
  | .ptr i _, h => hσ i h
  | .mp i, h => hσ i h
  | .eptr i _ _, h => hσ i h
  | .iptr _, _ => trivial
  | .clo _ f c, h => ⟨Scs_unren hσ f h.1, Scs_unren hσ c h.2⟩
  | .ifc _ x, h => Sc_unren hσ x h
  | .agg ps, h => Scs_unren hσ ps h
  | .tup ps, h => Scs_unren hσ ps h
  | .any, _ => trivial
theorem Scs_unren {S : Nat → Prop} {σ : Nat → Nat} {m : Nat} (hσ : ∀ j, S (σ j) → j < m) : ∀ ps, Scs S (rens σ ps) → Scs (· < m) ps
  | [], _ => trivial
  | p :: ps, h => ⟨Sc_unren hσ p h.1, Scs_unren hσ ps h.2⟩
end

theorem rowSc_unren {S : Nat → Prop} {σ : Nat → Nat} {m : Nat} (hσ : ∀ j, S (σ j) → j < m) : ∀ r, rowSc S (renRow σ r) → rowSc (· < m) r
  | .box cells, h => Scs_unren hσ cells h
  | .map _ _ ents, h => fun e he => Sc_unren hσ _ (h (e.1, e.2.1, ren σ e.2.2) (List.mem_map.2 ⟨e, he, rfl⟩))
  | .itm src _ _ _, h => hσ src h
  | .dead, _ => trivial
  | .own _ _, _ => trivial
  | .iter _ _, _ => trivial

theorem renRow_dead {σ : Nat → Nat} {r : Row} : renRow σ r = .dead ↔ r = .dead := by cases r <;> simp [renRow]

theorem rblk_ren {σ : Nat → Nat} {r : Row} {l : Loc} : rblk l (renRow σ r) = rblk l r := by cases r <;> rfl

theorem RowC_ren {σ : Nat → Nat} {r r2 : Row} (h : RowC r r2) : RowC (renRow σ r) (renRow σ r2) := by
  cases r <;> cases r2 <;> simp_all [RowC, renRow, rens_length]

set_option maxHeartbeats 1000000 in
/-- THE FRAME: a contract in the callee's numbers serves in the caller's -/
theorem AFun.call {P : Program} {f : FuncId} {ps : List PV} {lent : List Row} {r : PV} {out : List Row} (h : AFun P f ps lent r out) {rows : Rows} {nx : Nat} (ι T : List Nat) {ps' : List PV}
    (hι : ι.length = lent.length) (hout : lent.length ≤ out.length) (hnd : ι.Nodup) (hlt : ∀ i ∈ ι, i < nx) (hargs : argsOk rows T (sig ι nx) ps' ps) (hlent : lentOk rows T (sig ι nx) 0 lent)
    (hT : T = [] ∨ (nvP r ∧ ∀ row ∈ out, nvRow row)) :
    ACall P f ps' rows nx (fun r' rows' nx' => r' = ren (sig ι nx) r ∧ rows' = updRows rows (plc (sig ι nx) 0 out) ∧ nx' = nx + (out.length - lent.length)) := by
  intro B β X w vs hm hp _
  have hsig1 : ∀ j, j < lent.length → sig ι nx j < nx := fun j hj => by
    unfold sig; rw [if_pos (by omega)]
    refine hlt _ ?_
    rw [List.getD_eq_getElem?_getD, List.getElem?_eq_getElem (by omega)]
    exact List.getElem_mem _
  have hsig2 : ∀ j, lent.length ≤ j → sig ι nx j = nx + (j - lent.length) := fun j hj => by
    unfold sig; rw [if_neg (by omega), hι]
  have hinj : ∀ a b, sig ι nx a = sig ι nx b → a = b := fun a b he => by
    rcases Nat.lt_or_ge a lent.length with ha | ha <;> rcases Nat.lt_or_ge b lent.length with hb | hb
    · unfold sig at he
      rw [if_pos (by omega), if_pos (by omega), List.getD_eq_getElem?_getD, List.getD_eq_getElem?_getD] at he
      refine (List.getElem?_inj (show a < ι.length by omega) hnd).1 ?_
      rw [List.getElem?_eq_getElem (by omega), List.getElem?_eq_getElem (by omega)] at he ⊢
      simpa using he
    · have := hsig1 a ha; have := hsig2 b hb; omega
    · have := hsig1 b hb; have := hsig2 a ha; omega
    · have := hsig2 a ha; have := hsig2 b hb; omega
  have hl : ∀ j, j < lent.length → rows (sig ι nx j) = renRow (sig ι nx) (lrows lent j) ∧ lrows lent j ≠ .dead ∧ sig ι nx j ∉ T := fun j hj => by
    have := lentOk_get hlent j lent[j] (List.getElem?_eq_getElem hj)
    rw [Nat.zero_add] at this
    have hg : lrows lent j = lent[j] := by simp [lrows, List.getD, List.getElem?_eq_getElem hj]
    rw [hg]; exact this
  have hrow : ∀ i, RowIs (sig ι nx) (rows (sig ι nx i)) (lrows lent i) := fun i => by
    rcases Nat.lt_or_ge i lent.length with hi | hi
    · exact .inr (hl i hi).1
    · exact .inl (by simp [lrows, List.getD, List.getElem?_eq_none hi])
  have hlen : ∀ i, lrows lent i ≠ .dead → i < lent.length := fun i hi => by
    rcases Nat.lt_or_ge i lent.length with h | h
    · exact h
    · exact absurd (by simp [lrows, List.getD, List.getElem?_eq_none h]) hi
  have hrb : ∀ j, j < lent.length → rblk (β (sig ι nx j)) (lrows lent j) = rblk (β (sig ι nx j)) (rows (sig ι nx j)) := fun j hj => by rw [(hl j hj).1, rblk_ren]
  -- the callee's base
  let Bc : Base := { w0 := w, L := fun b => ∃ j, j < lent.length ∧ rblk (β (sig ι nx j)) (rows (sig ι nx j)) = some b, X0 := frzX rows β X T, kl := lent.length, loc := fun j => β (sig ι nx j), rows0 := lrows lent }
  have hLX : ∀ b, Bc.L b → frzX rows β X T b := fun b ⟨j, hj, hb⟩ => ⟨(rowOk_blk (hm.ok _) hb).2, fun i hi hib => (hl j hj).2.2 (by rw [hm.inj _ _ b hb hib]; exact hi)⟩
  have hmc : Mem Bc (fun j => β (sig ι nx j)) (frzX rows β X T) w (lrows lent) lent.length := by
    refine ⟨fun j => ?_, fun i j b hi hj => ?_, fun i hi => by simp [lrows, List.getD, List.getElem?_eq_none hi], fun i => ?_, rfl, rfl, rfl, Nat.le_refl _, fun _ _ _ => rfl, fun _ _ h => h, fun i b hi _ => ?_, fun _ _ h _ => h, Nat.le_refl _, fun i _ => ⟨RowC.refl _, fun _ => rfl⟩⟩
    · rcases Nat.lt_or_ge j lent.length with hj | hj
      · have ho := hm.ok (sig ι nx j)
        have hX : ∀ b, rblk (β (sig ι nx j)) (rows (sig ι nx j)) = some b → frzX rows β X T b := fun b hb => hLX b ⟨j, hj, hb⟩
        rw [(hl j hj).1] at ho hX
        cases hri : lrows lent j with
        | dead => trivial
        | box cells =>
          rw [hri] at ho hX
          obtain ⟨b, cs, e, fr, h1, h2, h3, h4, h5, h6⟩ := ho
          rw [rens_length] at h5 h6
          refine ⟨b, cs, e, fr, h1, hX b (by simp [renRow, rblk, h1]), h3, h4, ?_, h6⟩
          exact repPs_mono (S := fun _ => True) (fun _ _ hx => ⟨rfl, fun hx' => hx hx'.1⟩) (fun i _ => ⟨RowC.refl _, fun _ => rfl⟩) _ _ (Scs.of_mem fun q _ => argOk_rep.Sc_true q) (repPs_unren hrow cells _ h5)
        | own sz el =>
          rw [hri] at ho hX
          obtain ⟨h1, h2, h3⟩ := ho
          refine ⟨h1, h2, ?_⟩
          rcases h3 with h3 | ⟨b, cs, e, fr, h3, h4, h5, h6, h7, h8, h9⟩
          · exact .inl h3
          · exact .inr ⟨b, cs, e, fr, h3, h4, hX b (by simp [renRow, rblk, h4]; omega), h6, h7, h8, repss_X (fun b hb => hb.1) _ _ _ h9⟩
        | iter s pos =>
          rw [hri] at ho hX
          obtain ⟨b, h1, h2, h3⟩ := ho
          exact ⟨b, h1, hX b (by simp [renRow, rblk, h1]), h3⟩
        | map kd clock ents =>
          rw [hri] at ho hX
          obtain ⟨b, es, h1, h2, h3, h4, h5⟩ := ho
          refine ⟨b, es, h1, hX b (by simp [renRow, rblk, h1]), h3, ?_, fun e he => h5 (e.1, e.2.1, ren (sig ι nx) e.2.2) (List.mem_map.2 ⟨e, he, rfl⟩)⟩
          exact repEs_mono (S := fun _ => True) (fun _ _ hx => ⟨rfl, fun hx' => hx hx'.1⟩) (fun i _ => ⟨RowC.refl _, fun _ => rfl⟩) _ _ (fun e _ => argOk_rep.Sc_true _) (repEs_unren hrow ents _ h4)
        | itm src since seen last =>
          rw [hri] at ho hX
          obtain ⟨b, mb, h1, h2, h3, h4⟩ := ho
          refine ⟨b, mb, h1, hX b (by simp [renRow, rblk, h1]), h3, fun hd => h4 fun h0 => ?_⟩
          have := (hl src (hlen src hd)).1
          rw [h0] at this
          exact hd (renRow_dead.1 this.symm)
      · rw [show lrows lent j = .dead from by simp [lrows, List.getD, List.getElem?_eq_none hj]]; trivial
    · have hi' := hlen i (fun e => by rw [e] at hi; simp [rblk] at hi)
      have hj' := hlen j (fun e => by rw [e] at hj; simp [rblk] at hj)
      rw [hrb i hi'] at hi; rw [hrb j hj'] at hj
      exact hinj _ _ (hm.inj _ _ b hi hj)
    · rcases Nat.lt_or_ge i lent.length with hi' | hi'
      · have h2 := hm.sr (sig ι nx i)
        rw [(hl i hi').1] at h2
        refine rowSc_unren (fun k hk => ?_) _ h2
        rcases Nat.lt_or_ge k lent.length with hkl | hkl
        · exact hkl
        · have := hsig2 k hkl; omega
      · rw [show lrows lent i = .dead from by simp [lrows, List.getD, List.getElem?_eq_none hi']]; trivial
    · have hi' := hlen i (fun e => by rw [e] at hi; simp [rblk] at hi)
      exact ⟨i, hi', by rw [← hrb i hi']; exact hi⟩
  refine (h Bc _ _ w vs rfl rfl hmc (argsOk_rep hm hrow hargs hp)).mono fun e w' ⟨v, β', X', h1, hm', hv, hsv⟩ => ?_
  -- back
  have hgetj : ∀ j, j < out.length → updRows rows (plc (sig ι nx) 0 out) (sig ι nx j) = renRow (sig ι nx) (lrows out j) := fun j hj => by
    have := updRows_plc (σ := sig ι nx) out rows 0 j (fun a b _ _ _ _ he => hinj a b he) hj
    rwa [Nat.zero_add] at this
  have hgetn : ∀ i, (∀ j, j < out.length → sig ι nx j ≠ i) → updRows rows (plc (sig ι nx) 0 out) i = rows i := fun i hi => by
    refine updRows_notin _ _ _ fun x hx => ?_
    obtain ⟨a, _, h2, h3⟩ := plc_mem out 0 hx
    rw [h3]; exact hi a (by omega)
  have β2def : ∃ β2 : Nat → Loc, (∀ i, i < nx → β2 i = β i) ∧ (∀ j, lent.length ≤ j → β2 (sig ι nx j) = β' j) := by
    refine ⟨fun i => if i < nx then β i else β' (lent.length + (i - nx)), fun i hi => by simp [hi], fun j hj => ?_⟩
    rw [hsig2 j hj]
    show (if nx + (j - lent.length) < nx then _ else _) = _
    rw [if_neg (by omega)]
    congr 1; omega
  obtain ⟨β2, hβa, hβb⟩ := β2def
  have hβj : ∀ j, j < out.length → lrows out j ≠ .dead → β2 (sig ι nx j) = β' j := fun j hj hd => by
    rcases Nat.lt_or_ge j lent.length with hjl | hjl
    · rw [hβa _ (hsig1 j hjl)]; exact ((hm'.lk j hjl).2 hd).symm
    · exact hβb j hjl
  let X2 : Nat → Prop := fun b => X' b ∨ ∃ i ∈ T, rblk (β i) (rows i) = some b
  have hcase : ∀ i, (∃ j, j < out.length ∧ i = sig ι nx j) ∨ (∀ j, j < out.length → sig ι nx j ≠ i) := fun i => by
    by_cases hex : ∃ j, j < out.length ∧ i = sig ι nx j
    · exact .inl hex
    · exact .inr fun j hj e => hex ⟨j, hj, e.symm⟩
  have hnot : ∀ i, (∀ j, j < out.length → sig ι nx j ≠ i) → ∀ b, rblk (β i) (rows i) = some b → ¬ Bc.L b := fun i hi b hb ⟨j, hj, hjb⟩ => hi j (by omega) (hm.inj _ _ b hjb hb)
  have hk : KeepX w X w' X2 := fun b hb hx => by
    have hnL : ¬ Bc.L b := fun hL => hx (hLX b hL).1
    refine ⟨hm'.keep b hb hnL, fun hx2 => ?_⟩
    rcases hx2 with hx2 | ⟨i, _, hib⟩
    · exact hx (hm'.xs b hb hx2).1
    · exact hx (rowOk_blk (hm.ok i) hib).2
  have hC : ∀ i, i < nx → RowC (rows i) (updRows rows (plc (sig ι nx) 0 out) i) ∧ (updRows rows (plc (sig ι nx) 0 out) i ≠ .dead → β2 i = β i) := fun i hi => by
    refine ⟨?_, fun _ => hβa i hi⟩
    rcases hcase i with ⟨j, hj, rfl⟩ | hn
    · rw [hgetj j hj]
      rcases Nat.lt_or_ge j lent.length with hjl | hjl
      · rw [(hl j hjl).1]; exact RowC_ren (hm'.lk j hjl).1
      · have := hsig2 j hjl; omega
    · rw [hgetn i hn]; exact RowC.refl _
  have hrr : ∀ j, j < out.length → updRows rows (plc (sig ι nx) 0 out) (sig ι nx j) = renRow (sig ι nx) (lrows out j) ∧ (lrows out j ≠ .dead → β2 (sig ι nx j) = β' j) := fun j hj => ⟨hgetj j hj, hβj j hj⟩
  have renP : ∀ p u, (T = [] ∨ nvP p) → Sc (· < out.length) p → repP (lrows out) β' w' X' p u → repP (updRows rows (plc (sig ι nx) 0 out)) β2 w' X2 (ren (sig ι nx) p) u := fun p u hT' hs hu => by
    rcases hT' with hT' | hT'
    · exact repP_ren (fun b hb => by rcases hb with hb | ⟨i, hi, _⟩; · exact hb
                                     · rw [hT'] at hi; simp at hi) hrr p u hs hu
    · exact repP_ren' hrr p u hT' hs hu
  have hsig3 : ∀ j, j < out.length → sig ι nx j < nx + (out.length - lent.length) := fun j hj => by
    rcases Nat.lt_or_ge j lent.length with hjl | hjl
    · have := hsig1 j hjl; omega
    · have := hsig2 j hjl; omega
  have hblk2 : ∀ i b, rblk (β2 i) (updRows rows (plc (sig ι nx) 0 out) i) = some b → (∃ j, j < out.length ∧ i = sig ι nx j ∧ rblk (β' j) (lrows out j) = some b) ∨ ((∀ j, j < out.length → sig ι nx j ≠ i) ∧ rblk (β i) (rows i) = some b) := fun i b hb => by
    rcases hcase i with ⟨j, hj, rfl⟩ | hn
    · refine .inl ⟨j, hj, rfl, ?_⟩
      rw [hgetj j hj, rblk_ren] at hb
      have hd : lrows out j ≠ .dead := fun e => by rw [e] at hb; simp [rblk] at hb
      rwa [hβj j hj hd] at hb
    · refine .inr ⟨hn, ?_⟩
      rw [hgetn i hn] at hb
      have hi : i < nx := by
        rcases Nat.lt_or_ge i nx with h | h
        · exact h
        · rw [hm.dead i h] at hb; simp [rblk] at hb
      rwa [hβa i hi] at hb
  have hM : Mem B β2 X2 w' (updRows rows (plc (sig ι nx) 0 out)) (nx + (out.length - lent.length)) := by
    refine ⟨fun i => ?_, fun i j b hi hj => ?_, fun i hi => ?_, fun i => ?_, hm'.os.trans hm.os, hm'.tape.trans hm.tape, hm'.output.trans hm.output, Nat.le_trans hm.size hm'.size, fun b hb hnL => ?_, fun b hb hx => ?_, fun i b hi hb => ?_, fun b hb h0 hnL => ?_, by have := hm.kln; omega, fun i hi => ?_⟩
    · rcases hcase i with ⟨j, hj, rfl⟩ | hn
      · rw [hgetj j hj]
        have ho := hm'.ok j
        cases hri : lrows out j with
        | dead => trivial
        | box cells =>
          rw [hβj j hj (by rw [hri]; simp)]
          rw [hri] at ho
          obtain ⟨b, cs, e, fr, g1, g2, g3, g4, g5, g6⟩ := ho
          refine ⟨b, cs, e, fr, g1, .inl g2, g3, g4, ?_, by rw [rens_length]; exact g6⟩
          rw [rens_length]
          have hsc := hm'.scr j cells hri
          rcases hT with hT | hT
          · exact repPs_ren (fun b hb => by rcases hb with hb | ⟨i, hi, _⟩; · exact hb
                                            · rw [hT] at hi; simp at hi) hrr cells _ hsc g5
          · have hmem : (Row.box cells) ∈ out := by
              have : lrows out j = out[j] := by simp [lrows, List.getD, List.getElem?_eq_getElem hj]
              rw [← hri, this]; exact List.getElem_mem hj
            exact repPs_ren' hrr cells _ (nvPs_of_mem (hT.2 _ hmem)) hsc g5
        | own sz el =>
          rw [hβj j hj (by rw [hri]; simp)]
          rw [hri] at ho
          obtain ⟨g1, g2, g3⟩ := ho
          refine ⟨g1, g2, ?_⟩
          rcases g3 with g3 | ⟨b, cs, e, fr, g3, g4, g5, g6, g7, g8, g9⟩
          · exact .inl g3
          · refine .inr ⟨b, cs, e, fr, g3, g4, .inl g5, g6, g7, g8, ?_⟩
            rcases hT with hT | hT
            · exact repss_mono (fun _ _ hx => ⟨rfl, fun hx' => by rcases hx' with hx' | ⟨i, hi, _⟩; · exact hx hx'
                                                                  · rw [hT] at hi; simp at hi⟩) _ _ _ g9
            · have hmem : (Row.own sz el) ∈ out := by
                have : lrows out j = out[j] := by simp [lrows, List.getD, List.getElem?_eq_getElem hj]
                rw [← hri, this]; exact List.getElem_mem hj
              exact repss_nv (hT.2 _ hmem) g9
        | iter s pos =>
          rw [hβj j hj (by rw [hri]; simp)]
          rw [hri] at ho
          obtain ⟨b, g1, g2, g3⟩ := ho
          exact ⟨b, g1, .inl g2, g3⟩
        | map kd clock ents =>
          rw [hβj j hj (by rw [hri]; simp)]
          rw [hri] at ho
          obtain ⟨b, es, g1, g2, g3, g4, g5⟩ := ho
          have hsc := hm'.sr j
          rw [hri] at hsc
          refine ⟨b, es, g1, .inl g2, g3, ?_, fun e he => ?_⟩
          · rcases hT with hT | hT
            · exact repEs_ren (fun b hb => by rcases hb with hb | ⟨i, hi, _⟩; · exact hb
                                              · rw [hT] at hi; simp at hi) hrr ents _ hsc g4
            · have hmem : (Row.map kd clock ents) ∈ out := by
                have : lrows out j = out[j] := by simp [lrows, List.getD, List.getElem?_eq_getElem hj]
                rw [← hri, this]; exact List.getElem_mem hj
              exact repEs_ren' hrr ents _ (hT.2 _ hmem) hsc g4
          · obtain ⟨x, hx, rfl⟩ := List.mem_map.1 he
            exact g5 x hx
        | itm src since seen last =>
          rw [hβj j hj (by rw [hri]; simp)]
          rw [hri] at ho
          obtain ⟨b, mb, g1, g2, g3, g4⟩ := ho
          have hsc := hm'.sr j
          rw [hri] at hsc
          refine ⟨b, mb, g1, .inl g2, g3, fun hd => ?_⟩
          have hsd : lrows out src ≠ .dead := fun h0 => hd (by rw [hgetj src hsc, h0]; rfl)
          rw [hβj src hsc hsd]
          exact g4 hsd
      · rw [hgetn i hn]
        by_cases hi : i < nx
        · rw [hβa i hi]
          refine rowOk_mono (S := (· < nx)) hk hC (hm.sr i) (fun b hb => ?_) (hm.ok i)
          have hb' := rowOk_blk (hm.ok i) hb
          have hnL := hnot i hn b hb
          refine ⟨hm'.keep b hb'.1 hnL, fun _ => ?_⟩
          by_cases hTb : ∃ i ∈ T, rblk (β i) (rows i) = some b
          · exact .inr hTb
          · exact .inl (hm'.fx b hb'.1 ⟨hb'.2, fun k hk hkb => hTb ⟨k, hk, hkb⟩⟩ hnL)
        · rw [hm.dead i (by omega)]; trivial
    · rcases hblk2 i b hi with ⟨a, ha, rfl, hab⟩ | ⟨hin, hib⟩ <;> rcases hblk2 j b hj with ⟨c, hc, rfl, hcb⟩ | ⟨hjn, hjb⟩
      · rw [hm'.inj a c b hab hcb]
      · have hb' := (rowOk_blk (hm.ok j) hjb).1
        exact absurd (hm'.lent a b hab hb') (hnot j hjn b hjb)
      · have hb' := (rowOk_blk (hm.ok i) hib).1
        exact absurd (hm'.lent c b hcb hb') (hnot i hin b hib)
      · exact hm.inj i j b hib hjb
    · rcases hcase i with ⟨j, hj, rfl⟩ | hn
      · have := hsig3 j hj; omega
      · rw [hgetn i hn]; exact hm.dead i (by omega)
    · rcases hcase i with ⟨j, hj, rfl⟩ | hn
      · rw [hgetj j hj]
        exact rowSc_ren hsig3 _ (hm'.sr j)
      · rw [hgetn i hn]
        exact rowSc.mono (fun _ k => by omega) _ (hm.sr i)
    · have hnL' : ¬ Bc.L b := fun ⟨j, _, hjb⟩ => hnL (hm.lent _ b hjb hb)
      rw [hm'.keep b (by have := hm.size; show b < w.heap.size; omega) hnL']
      exact hm.keep b hb hnL
    · rcases hx with hx | ⟨i, _, hib⟩
      · exact hm.xs b hb (hm'.xs b (by have := hm.size; show b < w.heap.size; omega) hx).1
      · exact hm.xs b hb (rowOk_blk (hm.ok i) hib).2
    · rcases hblk2 i b hi with ⟨a, ha, rfl, hab⟩ | ⟨hin, hib⟩
      · obtain ⟨j, _, hjb⟩ := hm'.lent a b hab (by have := hm.size; show b < w.heap.size; omega)
        exact hm.lent _ b hjb hb
      · exact hm.lent i b hib hb
    · have hX := hm.fx b hb h0 hnL
      by_cases hTb : ∃ i ∈ T, rblk (β i) (rows i) = some b
      · exact .inr hTb
      · refine .inl (hm'.fx b (by have := hm.size; show b < w.heap.size; omega) ⟨hX, fun k hk hkb => hTb ⟨k, hk, hkb⟩⟩ ?_)
        exact fun ⟨j, _, hjb⟩ => hnL (hm.lent _ b hjb hb)
    · have hi' : i < nx := by have := hm.kln; omega
      obtain ⟨g1, g2⟩ := hm.lk i hi
      obtain ⟨g3, g4⟩ := hC i hi'
      refine ⟨g1.trans g3, fun hd => ?_⟩
      rw [hβa i hi']
      refine g2 fun h0 => hd ?_
      rw [h0] at g3
      cases hu : updRows rows (plc (sig ι nx) 0 out) i <;> rw [hu] at g3 <;> simp [RowC] at g3 ⊢
  refine ⟨v, _, _, _, β2, X2, h1, ⟨rfl, rfl, rfl⟩, hM, renP r v (hT.imp id (·.1)) hsv hv, Sc_ren hsig3 r hsv, by omega, fun p u hp hu => repP_mono hk hC p u hp hu⟩
end Go.AM

namespace Go.AM
open Go

/-! ## what the walk rewrites by -/
theorem K_mono_ACall {P : Program} {f : FuncId} {ps : List PV} {rows : Rows} {nx : Nat} {K K' : PV → Rows → Nat → Prop} (hk : ∀ r rows' nx', K r rows' nx' → K' r rows' nx') (h : ACall P f ps rows nx K) : ACall P f ps rows nx K' := h.mono hk

theorem xop_mono {P : Program} {o : Oper} {s : St} {K K' : St → Prop} (hk : ∀ s, K s → K' s) (h : xop P o s K) : xop P o s K' := by
  unfold xop at *
  cases he : evX P o s with
  | some e => rw [he] at h; exact ⟨h.1, h.2.1, hk _ h.2.2⟩
  | none =>
    rw [he] at h
    simp only at h ⊢
    cases hi : invOf P s o.op with
    | some x => obtain ⟨f, ps⟩ := x; rw [hi] at h; exact ⟨h.1, h.2.1, h.2.2.mono fun _ _ _ h => hk _ h⟩
    | none => rw [hi] at h; exact h

theorem aop_mono {P : Program} {o : Oper} {s : St} {K K' : St → Prop} (hk : ∀ s, K s → K' s) (h : aop P o s K) : aop P o s K' := by
  unfold aop at *
  cases he : evOp P o s with
  | some e => rw [he] at h; exact ⟨h.1, h.2.1, hk _ h.2.2⟩
  | none =>
    rw [he] at h
    simp only at h ⊢
    cases hop : o.op with
    | call c =>
      rw [hop] at h
      simp only at h ⊢
      cases hf : calleeOf s c with
      | some x => obtain ⟨f, ps⟩ := x; rw [hf] at h; exact ⟨h.1, h.2.1, h.2.2.mono fun _ _ _ h => hk _ h⟩
      | none => rw [hf] at h; exact xop_mono hk h
    | _ => rw [hop] at h; exact xop_mono hk h

theorem aops_mono {P : Program} {ops : Array Oper} {K K' : St → Prop} (hk : ∀ s, K s → K' s) : ∀ (l : List Oper) (s : St), aops P ops K l s → aops P ops K' l s
  | [], s, h => hk s h
  | o :: rest, s, h => by
    unfold aops at *
    split
    · rename_i hg; rw [hg] at h; exact aop_mono (fun s => aops_mono hk rest s) h
    · rename_i j want hg
      rw [hg] at h
      simp only at h ⊢
      split
      · rename_i b hb
        rw [hb] at h
        simp only at h
        split
        · rename_i hbw; rw [if_pos hbw] at h; exact aop_mono (fun s => aops_mono hk rest s) h
        · rename_i hbw; rw [if_neg hbw] at h; exact ⟨h.1, aops_mono hk rest _ h.2⟩
      · rename_i hb; rw [hb] at h; exact h

theorem awp_mono {P : Program} : ∀ (c : Code) (Q Q' : Exit → St → Prop) (s : St), (∀ e s, Q e s → Q' e s) → awp P c Q s → awp P c Q' s
  | .skip, Q, Q', s, hq, h => hq _ _ h
  | .region id ops draw, Q, Q', s, hq, h => by
    unfold awp at *
    cases draw
    · exact aops_mono (hq .normal) _ _ h
    · obtain ⟨s', h1, h2⟩ := h; exact ⟨s', hq _ _ h1, h2⟩
  | .seq x y, Q, Q', s, hq, h => by
    unfold awp at *
    refine awp_mono x _ _ s (fun e s h => ?_) h
    cases e with
    | normal => exact awp_mono y _ _ s hq h
    | _ => exact hq _ _ h
  | .cond c x y, Q, Q', s, hq, h => by
    unfold awp at *
    split
    · rename_i t hc
      rw [hc] at h
      simp only at h
      split
      · rename_i ht; rw [if_pos ht] at h; exact awp_mono x _ _ s hq h
      · rename_i ht; rw [if_neg ht] at h; exact awp_mono y _ _ s hq h
    · rename_i hne
      split at h
      · rename_i t hc; exact absurd hc (hne t)
      · exact h
  | .block id c, Q, Q', s, hq, h => by
    unfold awp at *
    refine awp_mono c _ _ s (fun e s h => ?_) h
    cases e with
    | exit id' => simp only [blockQ] at h ⊢; split <;> rename_i hid <;> simp only [hid, if_true, if_false] at h <;> exact hq _ _ h
    | _ => exact hq _ _ h
  | .loop c, Q, Q', s, hq, h => by
    unfold awp at *
    obtain ⟨ι, inv, μ, h0, hround⟩ := h
    refine ⟨ι, inv, μ, h0, fun i => awp_mono c _ _ _ (fun e s h => ?_) (hround i)⟩
    cases e with
    | normal => exact h
    | _ => exact hq _ _ h
  | .exit id, Q, Q', s, hq, h => hq _ _ h
  | .ret, Q, Q', s, hq, h => hq _ _ h
  | .label _, _, _, _, _, h => h
  | .goto _, _, _, _, _, h => h
  | .scope _, _, _, _, _, h => h
  | .refuse _, _, _, _, _, h => h
  | .rangeFunc _ _ _ _, _, _, _, _, h => h

def dlt (d : Option Nat) (n : Nat) : Prop := match d with | some d => d < n | none => True
theorem dlt_some {d n : Nat} : dlt (some d) n = (d < n) := rfl
theorem dlt_none {n : Nat} : dlt none n = True := rfl
theorem dlt_eq {d : Option Nat} {n : Nat} : (∀ d', d = some d' → d' < n) = dlt d n := by cases d <;> simp [dlt]

section
variable {P : Program} {Q : Exit → St → Prop} {s : St}
def ALoop (P : Program) (c : Code) (Q : Exit → St → Prop) (s : St) : Prop := aloop (awp P c) Q s
theorem awp_skip : awp P .skip Q s = Q .normal s := rfl
theorem awp_reg {id : Nat} {l : List Oper} : awp P (.region id l.toArray false) Q s = aops P l.toArray (Q .normal) l s := rfl
theorem awp_regD {id : Nat} {ops : Array Oper} : awp P (.region id ops true) Q s = aregD P ops (Q .normal) s := rfl
theorem awp_seq {x y : Code} : awp P (.seq x y) Q s = awp P x (thenQ (awp P y Q) Q) s := rfl
theorem awp_block {id : Nat} {c : Code} : awp P (.block id c) Q s = awp P c (blockQ id Q) s := rfl
theorem awp_loop {c : Code} : awp P (.loop c) Q s = ALoop P c Q s := rfl
theorem awp_exit {id : Nat} : awp P (.exit id) Q s = Q (.exit id) s := rfl
theorem awp_ret : awp P .ret Q s = Q .ret s := rfl
theorem awp_cond {c : Operand} {x y : Code} : awp P (.cond c x y) Q s = (match ev s.regs c with
    | .d (.lit (.bool t)) => if t = true then awp P x Q s else awp P y Q s
    | _ => False) := rfl
theorem thenQ_normal {K : St → Prop} : thenQ K Q .normal s = K s := rfl
theorem thenQ_exit {K : St → Prop} {id : Nat} : thenQ K Q (.exit id) s = Q (.exit id) s := rfl
theorem thenQ_ret {K : St → Prop} : thenQ K Q .ret s = Q .ret s := rfl
theorem blockQ_normal {id : Nat} : blockQ id Q .normal s = Q .normal s := rfl
theorem blockQ_ret {id : Nat} : blockQ id Q .ret s = Q .ret s := rfl
theorem blockQ_exit {id id' : Nat} : blockQ id Q (.exit id') s = if id' = id then Q .normal s else Q (.exit id') s := rfl
theorem aops_nil {ops : Array Oper} {K : St → Prop} : aops P ops K [] s = K s := rfl
theorem aops_cons {ops : Array Oper} {K : St → Prop} {d : Option Nat} {op : Op} {t : TypeId} {pos : String} {af : Array Edge} {rest : List Oper} :
    aops P ops K (⟨d, op, t, pos, af, none⟩ :: rest) s = aop P ⟨d, op, t, pos, af, none⟩ s (aops P ops K rest) := rfl
theorem aops_guard {ops : Array Oper} {K : St → Prop} {d : Option Nat} {op : Op} {t : TypeId} {pos : String} {af : Array Edge} {rest : List Oper} {j : Nat} {want : Bool} :
    aops P ops K (⟨d, op, t, pos, af, some (j, want)⟩ :: rest) s = (match yieldP ops s j want with
      | some b => if b = true then aop P ⟨d, op, t, pos, af, some (j, want)⟩ s (aops P ops K rest) else dlt d s.N ∧ aops P ops K rest (s.put d undP)
      | none => False) := by rw [← dlt_eq]; rfl

theorem upd_apply {α : Type} (f : Nat → α) (i : Nat) (x : α) (j : Nat) : upd f i x j = if j = i then x else f j := rfl
theorem put_some {N kl nx : Nat} {r : Nat → PV} {rows : Rows} {d : Nat} {p : PV} : St.put ⟨N, kl, r, rows, nx⟩ (some d) p = ⟨N, kl, upd r d p, rows, nx⟩ := rfl
theorem put_none {s : St} {p : PV} : s.put none p = s := rfl

/-- the pure ones -/
def K1 (s : St) (d : Option Nat) (c : Prop) (p : PV) (K : St → Prop) : Prop := c ∧ (∀ d', d = some d' → d' < s.N) ∧ K (s.put d p)
theorem K1_some {d : Nat} {p : PV} {c : Prop} {K : St → Prop} : K1 s (some d) c p K = (c ∧ d < s.N ∧ K (s.put (some d) p)) := by
  unfold K1; simp
theorem K1_none {p : PV} {c : Prop} {K : St → Prop} : K1 s none c p K = (c ∧ K s) := by
  unfold K1; simp [put_none]

def K1o (s : St) (d : Option Nat) (x : Option (Prop × PV)) (K : St → Prop) : Prop := match x with | some r => K1 s d r.1 r.2 K | none => False
theorem K1o_some {d : Option Nat} {r : Prop × PV} {K : St → Prop} : K1o s d (some r) K = K1 s d r.1 r.2 K := rfl
def K2o (s : St) (d : Option Nat) (x : Option PV) (K : St → Prop) : Prop := match x with | some r => K1 s d True r K | none => False
theorem K2o_some {d : Option Nat} {r : PV} {K : St → Prop} : K2o s d (some r) K = K1 s d True r K := rfl
def KE (s : St) (d : Option Nat) (x : Option Eff) (K : St → Prop) : Prop := match x with | some e => e.ok ∧ (∀ d', d = some d' → d' < s.N) ∧ K ((s.after e).put d e.val) | none => False
theorem KE_some {d : Option Nat} {e : Eff} {K : St → Prop} : KE s d (some e) K = (e.ok ∧ dlt d s.N ∧ K ((s.after e).put d e.val)) := by rw [← dlt_eq]; rfl
theorem dst_some {d n : Nat} : (∀ d', some d = some d' → d' < n) = (d < n) := by simp
theorem dst_none {n : Nat} : (∀ d', (none : Option Nat) = some d' → d' < n) = True := by simp

variable {d : Option Nat} {t : TypeId} {pos : String} {af : Array Edge} {g : Option (Nat × Bool)} {K : St → Prop}
theorem aop_move {x : Operand} : aop P ⟨d, .move x, t, pos, af, g⟩ s K = K1 s d True (ev s.regs x) K := rfl
theorem aop_assign {x : Operand} : aop P ⟨d, .assign x, t, pos, af, g⟩ s K = K1 s d True (ev s.regs x) K := rfl
theorem aop_pick {c x y : Operand} : aop P ⟨d, .pick c x y, t, pos, af, g⟩ s K = (match ev s.regs c with
    | .d (.lit (.bool b)) => K1 s d True (if b then ev s.regs x else ev s.regs y) K
    | _ => False) := by
  simp only [aop, evOp]
  cases hc : ev s.regs c with
  | d y => cases y with
    | lit v => cases v <;> rfl
    | _ => rfl
  | _ => rfl
theorem aop_alloc {u : TypeId} : aop P ⟨d, .alloc u, t, pos, af, g⟩ s K = KE s d (evAlloc P s u) K := by
  simp only [aop, evOp, KE]; cases evAlloc P s u <;> rfl
theorem aop_box {u : TypeId} {x : Operand} : aop P ⟨d, .box u x, t, pos, af, g⟩ s K = KE s d (evBox s (ev s.regs x)) K := by
  simp only [aop, evOp, KE]; cases evBox s (ev s.regs x) <;> rfl
theorem aop_build {u : TypeId} {parts : Array (Nat × Operand)} : aop P ⟨d, .build u parts, t, pos, af, g⟩ s K = K2o s d (evBuild P s u (parts.toList.map fun x => (x.1, ev s.regs x.2))) K := by
  simp only [aop, evOp, K2o]; cases evBuild P s u (parts.toList.map fun x => (x.1, ev s.regs x.2)) <;> rfl
theorem aop_buildSlice {u : TypeId} {n : Nat} {parts : Array (Nat × Operand)} : aop P ⟨d, .buildSlice u n parts, t, pos, af, g⟩ s K = KE s d (evBS P s u n (parts.toList.map fun x => (x.1, ev s.regs x.2))) K := by
  simp only [aop, evOp, KE]; cases evBS P s u n (parts.toList.map fun x => (x.1, ev s.regs x.2)) <;> rfl
theorem aop_load {u : TypeId} {x : Operand} : aop P ⟨d, .load u x, t, pos, af, g⟩ s K = K2o s d (evLoad P s.rows u (ev s.regs x)) K := by
  simp only [aop, evOp, K2o]; cases evLoad P s.rows u (ev s.regs x) <;> rfl
theorem aop_store {u : TypeId} {x y : Operand} : aop P ⟨d, .store u x y, t, pos, af, g⟩ s K = KE s d ((evStore P s.rows u (ev s.regs x) (ev s.regs y)).map fun r => effSet r.1 r.2) K := by
  simp only [aop, evOp, KE]; cases evStore P s.rows u (ev s.regs x) (ev s.regs y) <;> rfl
theorem aop_nil {x : Operand} : aop P ⟨d, .nilCheck x, t, pos, af, g⟩ s K = K2o s d (evNil s.rows (ev s.regs x)) K := by
  simp only [aop, evOp, K2o]; cases evNil s.rows (ev s.regs x) <;> rfl
theorem aop_bin {op : BinOp} {u u' : TypeId} {x y : Operand} : aop P ⟨d, .binOp op u x y u', t, pos, af, g⟩ s K = K1o s d (evBinP P op u s.rows (ev s.regs x) (ev s.regs y)) K := by
  simp only [aop, evOp, K1o]; cases evBinP P op u s.rows (ev s.regs x) (ev s.regs y) <;> rfl
theorem aop_un {op : UnOp} {u : TypeId} {x : Operand} : aop P ⟨d, .unOp op u x, t, pos, af, g⟩ s K = (match ev s.regs x with
    | .d (.lit v) => K2o s d ((evUn op v).map fun v => .d (.lit v)) K
    | _ => False) := by
  simp only [aop, evOp]
  cases hx : ev s.regs x with
  | d x => cases x with
    | lit v => simp only [K2o]; cases evUn op v <;> rfl
    | _ => rfl
  | _ => rfl
theorem aop_conv {u u' : TypeId} {x : Operand} : aop P ⟨d, .convert u u' x, t, pos, af, g⟩ s K = K2o s d ((evConv P s.rows u u' (ev s.regs x)).or (evConvId P s.rows u u' (ev s.regs x))) K := by
  simp only [aop, evOp, K2o]; cases evConv P s.rows u u' (ev s.regs x) <;> (try rfl); cases evConvId P s.rows u u' (ev s.regs x) <;> rfl
theorem aop_makeSlice {u : TypeId} {x y : Operand} : aop P ⟨d, .makeSlice u x y, t, pos, af, g⟩ s K = KE s d (evMake P s u (ev s.regs x) (ev s.regs y)) K := by
  simp only [aop, evOp, KE]; cases evMake P s u (ev s.regs x) (ev s.regs y) <;> rfl
theorem aop_slice {u : TypeId} {x : Operand} {lo hi : Option Operand} : aop P ⟨d, .slice u x lo hi none, t, pos, af, g⟩ s K = (match bdV s.regs lo, bdV s.regs hi with
    | some l, some h => K1o s d (evSl P s.rows u (ev s.regs x) l h) K
    | _, _ => False) := by
  simp only [aop, evOp]
  cases bdV s.regs lo <;> cases bdV s.regs hi <;> try rfl
  simp only [K1o]
  rename_i l h
  cases evSl P s.rows u (ev s.regs x) l h <;> rfl
theorem aop_fieldAddr {u : TypeId} {x : Operand} {f : Nat} : aop P ⟨d, .fieldAddr u x f, t, pos, af, g⟩ s K = K2o s d (evField P s.rows u (ev s.regs x) f) K := by
  simp only [aop, evOp, K2o]; cases evField P s.rows u (ev s.regs x) f <;> rfl
theorem aop_indexAddr {u : TypeId} {x y : Operand} : aop P ⟨d, .indexAddr u x y, t, pos, af, g⟩ s K = (match ev s.regs y with
    | .d (.lit (.int _ n)) => K1o s d (evIdx P s.rows u (ev s.regs x) n) K
    | _ => False) := by
  simp only [aop, evOp]
  cases hy : ev s.regs y with
  | d y => cases y with
    | lit v => cases v with
      | int k n => simp only [K1o]; cases evIdx P s.rows u (ev s.regs x) n <;> rfl
      | _ => rfl
    | _ => rfl
  | _ => rfl
theorem aop_extract {x : Operand} {i : Nat} : aop P ⟨d, .extract x i, t, pos, af, g⟩ s K = K2o s d (evExtract (ev s.regs x) i) K := by
  simp only [aop, evOp, K2o]; cases evExtract (ev s.regs x) i <;> rfl
theorem aop_field {u : TypeId} {x : Operand} {f : Nat} : aop P ⟨d, .field u x f, t, pos, af, g⟩ s K = K2o s d (evFld P u (ev s.regs x) f) K := by
  simp only [aop, evOp, K2o]; cases evFld P u (ev s.regs x) f <;> rfl
theorem aop_makeFunc {fn : Fn} {f c : Array Operand} : aop P ⟨d, .makeFunc fn f c, t, pos, af, g⟩ s K = K1 s d True (.clo fn (f.toList.map (ev s.regs)) (c.toList.map (ev s.regs))) K := rfl
theorem aop_makeInterface {u : TypeId} {x : Operand} : aop P ⟨d, .makeInterface u x, t, pos, af, g⟩ s K = K1 s d (notIface P u = true) (.ifc u (ev s.regs x)) K := by
  simp only [aop, evOp]
  by_cases h : notIface P u = true
  · rw [if_pos h]; simp only [K1, h]; rfl
  · rw [if_neg h]; simp only [K1, h]; simp [xop, evX, invOf]
theorem aop_len {x : Operand} {u : TypeId} : aop P ⟨d, .call { callee := .builtin .len, args := #[x], argTypes := #[u] }, t, pos, af, g⟩ s K = K2o s d ((evLen P s.rows u (ev s.regs x)).map fun n => .d (.lit (.int .i64 n))) K := by
  simp only [aop, evOp, K2o]; cases evLen P s.rows u (ev s.regs x) <;> rfl
theorem aop_append {x y : Operand} {u u' : TypeId} : aop P ⟨d, .call { callee := .builtin .append, args := #[x, y], argTypes := #[u, u'] }, t, pos, af, g⟩ s K = KE s d (evApp P s u u' (ev s.regs x) (ev s.regs y)) K := by
  simp only [aop, evOp, KE]; cases evApp P s u u' (ev s.regs x) (ev s.regs y) <;> rfl
theorem aop_lookup {u : TypeId} {x y : Operand} {ok : Bool} : aop P ⟨d, .lookup u x y ok, t, pos, af, g⟩ s K = K2o s d (evLook P s.rows u (ev s.regs x) (ev s.regs y) ok) K := by
  simp only [aop, evOp, K2o]; cases evLook P s.rows u (ev s.regs x) (ev s.regs y) ok <;> rfl
theorem aop_mapUpdate {u : TypeId} {x y z : Operand} : aop P ⟨d, .mapUpdate u x y z, t, pos, af, g⟩ s K = KE s d ((evMset P s.rows u (ev s.regs x) (ev s.regs y) (ev s.regs z)).map fun r => effSet r.1 r.2) K := by
  simp only [aop, evOp, KE]; cases evMset P s.rows u (ev s.regs x) (ev s.regs y) (ev s.regs z) <;> rfl
theorem aop_delete {x y : Operand} {u u' : TypeId} : aop P ⟨d, .call { callee := .builtin .delete, args := #[x, y], argTypes := #[u, u'] }, t, pos, af, g⟩ s K = KE s d ((evMdel P s.rows u (ev s.regs x) (ev s.regs y)).map fun r => effSet r.1 r.2) K := by
  simp only [aop, evOp, KE]; cases evMdel P s.rows u (ev s.regs x) (ev s.regs y) <;> rfl
theorem aop_mmake {u : TypeId} : aop P ⟨d, .makeMap u none, t, pos, af, g⟩ s K = KE s d (evMmake P s u) K := by
  simp only [aop, evOp, xop, evX, KE]; cases evMmake P s u <;> rfl
theorem aop_range {u : TypeId} {x : Operand} : aop P ⟨d, .range u x, t, pos, af, g⟩ s K = KE s d (evRange P s u (ev s.regs x)) K := by
  simp only [aop, evOp, xop, evX, KE]; cases evRange P s u (ev s.regs x) <;> rfl
theorem aop_next {x : Operand} : aop P ⟨d, .next x true, t, pos, af, g⟩ s K = KE s d (evNext s (ev s.regs x)) K := by
  simp only [aop, evOp, xop, evX, KE]; cases evNext s (ev s.regs x) <;> rfl
theorem aop_clear {x : Operand} {u : TypeId} : aop P ⟨d, .call { callee := .builtin .clear, args := #[x], argTypes := #[u] }, t, pos, af, g⟩ s K = KE s d (evClear P s u (ev s.regs x)) K := by
  simp only [aop, evOp, calleeOf, xop, evX, KE]; cases evClear P s u (ev s.regs x) <;> rfl
theorem aop_typeAssert {x : Operand} {u u' : TypeId} : aop P ⟨d, .typeAssert x u u' false, t, pos, af, g⟩ s K = K2o s d (evTA P (ev s.regs x) u') K := by
  simp only [aop, evOp, K2o]; cases evTA P (ev s.regs x) u' <;> rfl
theorem aop_invoke {x : Operand} {name : String} {args : Array Operand} {ts : Array TypeId} : aop P ⟨d, .call { callee := .invoke x name, args := args, argTypes := ts }, t, pos, af, g⟩ s K = (match ev s.regs x with
    | .ifc u q => match methOf P s.rows u q name with
      | some (f, r) => isFn P f = true ∧ dlt d s.N ∧ ACall P f (r :: args.toList.map (ev s.regs)) s.rows s.nx fun r rows' nx' => K ({ s with rows := rows', nx := nx' }.put d r)
      | none => False
    | _ => False) := by
  simp only [aop, evOp, calleeOf, xop, evX, invOf, dlt_eq]
  cases hx : ev s.regs x with
  | ifc u q => simp only; cases methOf P s.rows u q name <;> rfl
  | _ => rfl
theorem aop_call {x : Operand} {args : Array Operand} {ts : Array TypeId} : aop P ⟨d, .call { callee := .value x, args := args, argTypes := ts }, t, pos, af, g⟩ s K = (match ev s.regs x with
    | .clo (.func f) first cap => isFn P f = true ∧ dlt d s.N ∧ ACall P f (first ++ args.toList.map (ev s.regs) ++ cap) s.rows s.nx fun r rows' nx' => K ({ s with rows := rows', nx := nx' }.put d r)
    | _ => False) := by
  simp only [aop, evOp, calleeOf, dlt_eq]
  cases hx : ev s.regs x with
  | clo fn f c => cases fn <;> rfl
  | _ => rfl
end


theorem ALoop.intro {P : Program} {c : Code} {Q : Exit → St → Prop} {s : St} {ι : Type} (N kl : Nat) (R : ι → List (Nat × PV)) (W : ι → List Row) (μ : ι → Nat) (i : ι) (F ρ : List Nat) (h0 : Ent s F ρ N kl (R i) (W i))
    (hr : ∀ i, awp P c (thenQ (fun s' => ∃ j F ρ, Ent s' F ρ N kl (R j) (W j) ∧ μ j < μ i) Q) (mkSt N kl (R i) (W i))) : ALoop P c Q s :=
  ⟨ι, fun i => mkSt N kl (R i) (W i), μ, ⟨i, fun _ _ _ h => h0.sat h⟩, fun i => awp_mono _ _ _ _ (fun e s h => by
    cases e with
    | normal => obtain ⟨j, F, ρ, h1, h2⟩ := h; exact ⟨j, fun _ _ _ h => h1.sat h, h2⟩
    | _ => exact h) (hr i)⟩

/-- no rows: nothing to freeze or to rename -/
theorem Ent.plain {s : St} {N kl : Nat} {regs : List (Nat × PV)} (n : s.N = N) (k : s.kl = kl) (hk : kl = 0) (h : regsEnt s [] [] regs) (hs : (regs.all fun x => scB 0 x.2) = true) : Ent s [] [] N kl regs [] :=
  ⟨n, k, by simp [hk], fun i hi => by omega, h, trivial, rfl, List.nodup_nil, hs, rfl⟩
end Go.AM
