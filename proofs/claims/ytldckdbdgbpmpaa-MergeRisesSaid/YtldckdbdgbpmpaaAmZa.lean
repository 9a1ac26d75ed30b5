/- Proved here: the walk of code, regions in any order and all. No condition. -/
import Derived.Test.YtldckdbdgbpmpaaAmY
set_option linter.unusedSimpArgs false
set_option linter.unusedVariables false
namespace Go.AM
open Go

/-! ## the walk of a region whose order is drawn -/
theorem baseEl_ids {rows : Rows} {sz : Nat} {p : PV} {i : Nat} {el : List (List DV)} (h : baseEl rows sz p = some (some i, el)) : i ∈ ids p := by
  unfold baseEl at h
  split at h
  · simp at h
  · rename_i k
    split at h
    · split at h
      · simp only [Option.some.injEq, Prod.mk.injEq] at h; simp [ids, h.1]
      · cases h
    · cases h
  · rename_i k m
    split at h
    · split at h
      · simp only [Option.some.injEq, Prod.mk.injEq] at h; simp [ids, h.1]
      · cases h
    · cases h
  · cases h

theorem putC_ids {rows : Rows} {p : PV} {ps : List PV} {i : Nat} {r : Row} (h : putC rows p ps = some (i, r)) : i ∈ ids p := by
  unfold putC at h
  split at h
  · split at h
    · split at h
      · simp only [Option.some.injEq, Prod.mk.injEq] at h; simp [ids, h.1]
      · cases h
    · cases h
  · split at h
    · split at h
      · split at h
        · simp only [Option.some.injEq, Prod.mk.injEq] at h; simp [ids, h.1]
        · cases h
      · cases h
    · cases h
  · cases h

def UpdsOk (W : List Nat) (u : List (Nat × Row)) : Prop :=
  (∀ y ∈ u, y.1 ∈ W) ∧ (u = [] ∨ (∃ i r, u = [(i, r)]) ∨ ∃ i n r, u = [(i, .dead), (n, r)])

theorem evOp_upds {P : Program} {o : Oper} {s : St} {e : Eff} (h : evOp P o s = some e) : UpdsOk (iwO s.nx s.regs o.op) e.upds := by
  unfold evOp at h
  cases hop : o.op <;> simp only [hop] at h ⊢
  case alloc t =>
    simp only [evAlloc] at h
    repeat' split at h
    all_goals first | (cases h; done) | (simp only [Option.some.injEq] at h; subst h; exact ⟨fun y hy => by simp [effNew] at hy; subst hy; simp [iwO], .inr (.inl ⟨_, _, rfl⟩)⟩)
  case box t x =>
    simp only [evBox] at h
    repeat' split at h
    all_goals first | (cases h; done) | (simp only [Option.some.injEq] at h; subst h; exact ⟨fun y hy => by simp [effNew] at hy; subst hy; simp [iwO], .inr (.inl ⟨_, _, rfl⟩)⟩)
  case buildSlice t n parts =>
    simp only [evBS] at h
    repeat' split at h
    all_goals first | (cases h; done) | (simp only [Option.some.injEq] at h; subst h; exact ⟨fun y hy => by simp [effNew] at hy; subst hy; simp [iwO], .inr (.inl ⟨_, _, rfl⟩)⟩)
  case makeSlice t x y =>
    simp only [evMake] at h
    repeat' split at h
    all_goals first | (cases h; done) | (simp only [Option.some.injEq] at h; subst h; exact ⟨fun y hy => by simp [effNew] at hy; subst hy; simp [iwO], .inr (.inl ⟨_, _, rfl⟩)⟩)
  case store t x y =>
    simp only [Option.map_eq_some_iff] at h
    obtain ⟨⟨i, r⟩, h1, rfl⟩ := h
    have hi : i ∈ ids (ev s.regs x) := by
      unfold evStore at h1
      split at h1
      · split at h1
        · exact putC_ids h1
        · cases h1
      · cases h1
    exact ⟨fun y hy => by simp [effSet] at hy; subst hy; exact hi, .inr (.inl ⟨_, _, rfl⟩)⟩
  case call c =>
    split at h
    · simp only [Option.map_eq_some_iff] at h
      obtain ⟨q, h1, rfl⟩ := h
      exact ⟨fun y hy => by simp [Eff.pureIf] at hy, .inl rfl⟩
    · split at h
      · simp only [Option.some.injEq] at h; subst h
        exact ⟨fun y hy => by simp [Eff.pureIf] at hy, .inl rfl⟩
      · cases h
    · split at h
      · simp only [Option.some.injEq] at h; subst h
        exact ⟨fun y hy => by simp [Eff.pureIf] at hy, .inl rfl⟩
      · cases h
    · rename_i x y t t' h1 h2 h3
      simp only [iwO, h1, h2]
      simp only [evApp] at h
      split at h
      · split at h
        · split at h
          · split at h
            · split at h
              · split at h
                · rename_i i el0 el1 hb hs
                  simp only [Option.some.injEq] at h; subst h
                  cases i with
                  | none => exact ⟨fun y hy => by simp [effApp] at hy; subst hy; simp, .inr (.inl ⟨_, _, rfl⟩)⟩
                  | some i =>
                    have hi := baseEl_ids hb
                    refine ⟨fun y hy => ?_,   .inr (.inr ⟨_, _, _, rfl⟩)⟩
                    simp [effApp] at hy
                    rcases hy with rfl | rfl
                    · simp [idss, hi]
                    · simp
                · split at h
                  · simp only [evAppB] at h
                    split at h
                    · split at h
                      · rename_i i c0 c1 hb hs
                        simp only [Option.some.injEq] at h; subst h
                        cases i with
                        | none => exact ⟨fun y hy => by simp [effAppB] at hy; subst hy; simp, .inr (.inl ⟨_, _, rfl⟩)⟩
                        | some i =>
                          have hi : i ∈ ids (ev s.regs x) := by
                            unfold baseB at hb
                            split at hb
                            · simp at hb
                            · rename_i k hx
                              rw [hx]
                              split at hb
                              · simp only [Option.some.injEq, Prod.mk.injEq] at hb; simp [ids, hb.1]
                              · cases hb
                            · cases hb
                          refine ⟨fun y hy => ?_, .inr (.inr ⟨_, _, _, rfl⟩)⟩
                          simp [effAppB] at hy
                          rcases hy with rfl | rfl
                          · simp [idss, hi]
                          · simp
                      · cases h
                    · cases h
                  · cases h
              · cases h
            · cases h
          · cases h
        · cases h
      · cases h
    · rename_i x y t t' h1 h2 h3
      simp only [iwO, h1, h2]
      simp only [Option.map_eq_some_iff] at h
      obtain ⟨⟨i, r⟩, h4, rfl⟩ := h
      have hi : i ∈ ids (ev s.regs x) := by
        unfold evMdel at h4
        split at h4
        · rename_i k hx
          rw [hx]
          repeat' split at h4
          all_goals first | (cases h4; done) | (simp only [Option.some.injEq, Prod.mk.injEq] at h4; simp [ids, h4.1])
        · cases h4
      exact ⟨fun y hy => by simp [effSet] at hy; subst hy; simp [idss, hi], .inr (.inl ⟨_, _, rfl⟩)⟩
    · cases h
  case mapUpdate t x y z =>
    simp only [Option.map_eq_some_iff] at h
    obtain ⟨⟨i, r⟩, h4, rfl⟩ := h
    have hi : i ∈ ids (ev s.regs x) := by
      unfold evMset at h4
      split at h4
      · rename_i k hx
        rw [hx]
        repeat' split at h4
        all_goals first | (cases h4; done) | (simp only [Option.some.injEq, Prod.mk.injEq] at h4; simp [ids, h4.1])
      · cases h4
    exact ⟨fun y hy => by simp [effSet] at hy; subst hy; exact hi, .inr (.inl ⟨_, _, rfl⟩)⟩
  case typeAssert x xt t ok =>
    cases ok with
    | true => cases h
    | false =>
      simp only [Option.map_eq_some_iff] at h
      obtain ⟨_, _, rfl⟩ := h
      exact ⟨fun y hy => by simp [Eff.pureIf] at hy, .inl rfl⟩
  all_goals
    have hu : e.upds = [] := by
      first
      | (simp only [Option.some.injEq] at h; subst h; rfl)
      | (simp only [Option.map_eq_some_iff] at h; obtain ⟨_, _, rfl⟩ := h; rfl)
      | (repeat' split at h) <;> first | (cases h; rfl) | (cases h; done) | (simp only [Option.some.injEq] at h; subst h; rfl) | (simp only [Option.map_eq_some_iff] at h; obtain ⟨_, _, rfl⟩ := h; rfl)
    exact ⟨fun y hy => by rw [hu] at hy; simp at hy, .inl hu⟩

/-- what is told of an operation -/
def fpB (o : Oper) (s s' : St) : FP where
  ir := irO s.regs o.op
  iw := iwO s.nx s.regs o.op
  im := (match o.dst with | some d => ids (s'.regs d) | none => []) ++ (iwO s.nx s.regs o.op).flatMap fun i => idsRow (s'.rows i)

def idsPlc (σ : Nat → Nat) : Nat → List Row → List Nat
  | _, [] => []
  | j, r :: rs => idsRow (renRow σ r) ++ idsPlc σ (j + 1) rs

def fpC (ι T : List Nat) (m : Nat) (r : PV) (out : List Row) : FP where
  ir := ι ++ T
  iw := (plc (sig ι m) 0 out).map (·.1)
  im := ids (ren (sig ι m) r) ++ idsPlc (sig ι m) 0 out

/-- a call in a region, by a contract -/
def ACallD (P : Program) (f : FuncId) (ps' : List PV) (rows : Rows) (m : Nat) (K : FP → PV → Rows → Prop) : Prop :=
  ∃ ps lent r out ι T, CallD P f ps' rows m m ps lent r out ι T ∧ K (fpC ι T m r out) (ren (sig ι m) r) (updRows rows (plc (sig ι m) 0 out))

def aopE (P : Program) (o : Oper) (s : St) (K : FP → St → Prop) : Prop :=
  if isB o.op then aop P o s (fun s' => K (fpB o s s') s')
  else match o.op with
    | .call c => match calleeOf s c with
      | some (f, ps) => (∀ d, o.dst = some d → d < s.N) ∧ ACallD P f ps s.rows s.nx fun fp r rows' => K fp ({ s with rows := rows' }.put o.dst r)
      | none => False
    | _ => False

def aopD (P : Program) (ops : Array Oper) (o : Oper) (s : St) (K : FP → St → Prop) : Prop :=
  match o.guard with
  | none => aopE P o s K
  | some (g, want) => match yieldP ops s g want with
    | some b => if b = true then aopE P o s K else (∀ d, o.dst = some d → d < s.N) ∧ K ⟨[], [], []⟩ (s.put o.dst undP)
    | none => False

/-- the region in the text's order; each operation's new rows lie 64 behind the last one's -/
def aopsD (P : Program) (ops : Array Oper) (n0 : Nat) (K : List FP → St → Prop) : Nat → List Oper → List FP → St → Prop
  | _, [], acc, s => K acc s
  | j, o :: rest, acc, s => aopD P ops o s fun f s' => aopsD P ops n0 K (j + 1) rest (f :: acc) { s' with nx := n0 + 64 * (j + 1) }

def St.at (s : St) (n : Nat) : St := { s with nx := n }

theorem put_at {s : St} {d : Option Nat} {p : PV} {n : Nat} : (s.at n).put d p = (s.put d p).at n := by cases d <;> rfl
theorem app_at {s : St} {d : Option Nat} {p : PV} {u : List (Nat × Row)} {n : Nat} : (s.at n).app d p u = (s.app d p u).at n := by cases d <;> rfl

theorem yieldP_loc {ops : Array Oper} {o : Oper} {f : FP} {s s2 : St} (h : Agree ops o f s s2) {g : Nat} {want : Bool} (hg : o.guard = some (g, want)) : yieldP ops s2 g want = yieldP ops s g want := by
  unfold yieldP
  cases hd : (ops[g]?).bind (·.dst) with
  | none => rfl
  | some d =>
    have : d ∈ o.looksAt ops := by unfold Oper.looksAt; rw [hg]; simp only [hd]; simp
    simp only
    rw [h.reg d this, h.n]

theorem ev_agree {ops : Array Oper} {o : Oper} {f : FP} {s s2 : St} (h : Agree ops o f s s2) : ∀ x ∈ o.op.operands.toList, ev s2.regs x = ev s.regs x := fun x hx => ev_loc fun t ht => by
  refine h.reg t ?_
  unfold Oper.looksAt
  exact List.mem_append.2 (.inl (mem_operands hx ht))

theorem argsOk_loc {rows rows2 : Rows} {T : List Nat} {σ : Nat → Nat} (hT : ∀ i ∈ T, rows2 i = rows i) : ∀ {ps' ps : List PV}, argsOk rows T σ ps' ps → argsOk rows2 T σ ps' ps
  | [], [], _ => trivial
  | p' :: ps', p :: ps, h => by
    refine ⟨?_, argsOk_loc hT h.2⟩
    rcases h.1 with h1 | h1
    · exact .inl h1
    · refine .inr ?_
      split at h1
      · rename_i sz el
        split at h1
        · rename_i i
          split at h1
          · rename_i sz' el' hi
            rw [hT i h1.2, hi]
            exact h1
          · rename_i cells hi
            split at h1
            · rename_i ds hds
              rw [hT i h1.2.2, hi]
              simp only [hds]
              exact h1
            · exact False.elim h1
          · exact False.elim h1
        · rename_i i off m
          split at h1
          · rename_i sz' el' hi
            rw [hT i h1.2.2, hi]
            exact h1
          · rename_i cells hi
            split at h1
            · rename_i ds hds
              rw [hT i h1.2.2.2, hi]
              simp only [hds]
              exact h1
            · exact False.elim h1
          · exact h1.elim
        · exact h1
        · exact h1.elim
      · exact h1.elim
  | [], _ :: _, h => h.elim
  | _ :: _, [], h => h.elim

theorem lentOk_loc {rows rows2 : Rows} {T : List Nat} {σ : Nat → Nat} : ∀ {k : Nat} {rs : List Row}, (∀ j, k ≤ j → j < k + rs.length → rows2 (σ j) = rows (σ j)) → lentOk rows T σ k rs → lentOk rows2 T σ k rs
  | _, [], _, _ => trivial
  | k, r :: rs, hr, h => by
    unfold lentOk at h ⊢
    refine ⟨(hr k (Nat.le_refl _) (by simp)).trans h.1, h.2.1, h.2.2.1, lentOk_loc (fun j h1 h2 => hr j (by omega) (by simp at h2 ⊢; omega)) h.2.2.2⟩

theorem CallD.loc {P : Program} {f : FuncId} {ps' : List PV} {rows rows2 : Rows} {nx nx2 m : Nat} {ps : List PV} {lent : List Row} {r : PV} {out : List Row} {ι T : List Nat} (h : CallD P f ps' rows nx m ps lent r out ι T)
    (hn : nx ≤ nx2) (hr : ∀ i ∈ ι ++ T, rows2 i = rows i) : CallD P f ps' rows2 nx2 m ps lent r out ι T :=
  ⟨h.fn, h.af, h.hι, h.hout, h.hk, h.hnd, fun i hi => Nat.lt_of_lt_of_le (h.hlt i hi) hn, argsOk_loc (fun i hi => hr i (by simp [hi])) h.args,
    lentOk_loc (fun j _ h2 => hr _ (by
      rw [Nat.zero_add, ← h.hι] at h2
      unfold sig
      rw [if_pos h2]
      refine List.mem_append.2 (.inl ?_)
      rw [List.getD_eq_getElem?_getD, List.getElem?_eq_getElem h2]
      exact List.getElem_mem _)) h.le, h.hT, h.hr, h.ho, h.hl, h.hp⟩

theorem idsPlc_mem {σ : Nat → Nat} {i : Nat} {r0 : Row} : ∀ {rs : List Row} {j : Nat}, (i, r0) ∈ plc σ j rs → ∀ x ∈ idsRow r0, x ∈ idsPlc σ j rs
  | [], _, h => by simp [plc] at h
  | r :: rs, j, h => by
    intro x hx
    simp only [plc, List.mem_cons, Prod.mk.injEq] at h
    simp only [idsPlc, List.mem_append]
    rcases h with ⟨_, h⟩ | h
    · left; rw [← h]; exact hx
    · right; exact idsPlc_mem h x hx

theorem xop_notB {P : Program} {o : Oper} {s : St} {K : St → Prop} (hb : isB o.op = true) (h : xop P o s K) : False := by
  unfold xop evX at h
  split at h
  · rename_i e he
    split at he
    · rename_i ho; rw [ho] at hb; simp [isB] at hb
    · rename_i ho; rw [ho] at hb; simp [isB] at hb
    · rename_i ho; rw [ho] at hb; simp [isB] at hb
    · rename_i c ho
      rw [ho] at hb
      split at he
      · rename_i h1 _ _; simp [isB, h1] at hb
      · cases he
    · cases he
  · split at h
    · rename_i f ps hi
      unfold invOf at hi
      split at hi
      · rename_i c ho
        split at hi
        · rename_i x name hx
          rw [ho] at hb; simp [isB, hx] at hb
        · cases hi
      · cases hi
    · exact h

/-- one step of the walk -/
theorem aopE_step {P : Program} {ops : Array Oper} {o : Oper} {s : St} {K : FP → St → Prop} {NX : Nat} (hm : s.nx ≤ NX) (h : aopE P o s K) :
    ∃ x : Step, (∀ s2, Agree ops o x.fp (s.at NX) s2 → Does P o x.p x.u s2 s.nx) ∧ (∃ n, K x.fp ((s.app o.dst x.p x.u).at n)) ∧ (∀ y ∈ x.u, y.1 ∈ x.fp.iw) ∧ (o.dst ≠ none → Sc (· ∈ x.fp.im) x.p) ∧
      (∀ i r, (i, r) ∈ x.u → rowSc (· ∈ x.fp.im) r) ∧ ∀ d, o.dst = some d → d < s.N := by
  unfold aopE at h
  split at h
  · rename_i hb
    unfold aop at h
    split at h
    · rename_i e he
      obtain ⟨hok, hd, hk⟩ := h
      have hu := evOp_upds he
      refine ⟨⟨fpB o s ((s.after e).put o.dst e.val), e.val, e.upds⟩, fun s2 hs2 => ?_, ⟨s.nx + e.nn, ?_⟩, hu.1, fun hdn => ?_, fun i r hc => ?_, hd⟩
      · have hs2' : Agree ops o (fpB o s ((s.after e).put o.dst e.val)) s (s2.at s.nx) := ⟨hs2.n, hs2.k, rfl, hs2.reg, hs2.row⟩
        refine does_b (s := s2) ?_ hok (fun d hd' => by rw [hs2.n]; exact hd d hd')
        exact (evOp_loc (s := s) (s' := s2.at s.nx) rfl (ev_agree hs2') hs2.row).trans he
      · have e1 : (s.after e).put o.dst e.val = (s.app o.dst e.val e.upds).at (s.nx + e.nn) := by
          unfold St.app St.after St.at
          cases o.dst <;> rfl
        rw [← e1]; exact hk
      · cases hd' : o.dst with
        | none => exact absurd hd' hdn
        | some d =>
          simp only [fpB, hd', St.put, upd_same]
          exact Sc_ids _ fun i hi => by simp [hi]
      · rcases hu.2 with h0 | ⟨i0, r0, h0⟩ | ⟨i0, n0, r0, h0⟩
        · rw [h0] at hc; simp at hc
        · simp only [h0, List.mem_singleton, Prod.mk.injEq] at hc
          obtain ⟨rfl, rfl⟩ := hc
          refine rowSc_ids _ fun x hx => ?_
          simp only [fpB, List.mem_append, List.mem_flatMap]
          right
          refine ⟨i, hu.1 (i, r) (by rw [h0]; simp), ?_⟩
          have : ((s.after e).put o.dst e.val).rows i = r := by
            have e2 : ((s.after e).put o.dst e.val).rows = updRows s.rows e.upds := by cases o.dst <;> rfl
            rw [e2, h0]; simp [updRows, upd]
          rw [this]; exact hx
        · simp only [h0, List.mem_cons, Prod.mk.injEq, List.not_mem_nil, or_false] at hc
          rcases hc with ⟨rfl, rfl⟩ | ⟨rfl, rfl⟩
          · trivial
          refine rowSc_ids _ fun x hx => ?_
          simp only [fpB, List.mem_append, List.mem_flatMap]
          right
          refine ⟨i, hu.1 (i, r) (by rw [h0]; simp), ?_⟩
          have : ((s.after e).put o.dst e.val).rows i = r := by
            have e2 : ((s.after e).put o.dst e.val).rows = updRows s.rows e.upds := by cases o.dst <;> rfl
            rw [e2, h0]; simp [updRows, upd]
          rw [this]; exact hx
    · exfalso
      split at h
      · rename_i c ho
        rw [ho] at hb
        unfold isB at hb
        split at h
        · rename_i f ps hc
          unfold calleeOf at hc
          split at hc
          · rename_i x hx; simp [hx] at hb
          · cases hc
        · exact xop_notB (by rw [ho]; exact hb) h
      · exact xop_notB hb h
  · split at h
    · rename_i c ho
      split at h
      · rename_i f ps' hc
        obtain ⟨hd, ps, lent, r, out, ι, T, hcd, hk⟩ := h
        refine ⟨⟨fpC ι T s.nx r out, ren (sig ι s.nx) r, plc (sig ι s.nx) 0 out⟩, fun s2 hs2 => ?_, ⟨s.nx, ?_⟩, fun y hy => ?_, fun _ => ?_, fun i r0 hci => ?_, hd⟩
        · have hev := ev_agree hs2
          have hc2 : calleeOf s2 c = some (f, ps') := by
            rw [← hc]
            rw [ho] at hev
            unfold calleeOf
            cases hx : c.callee with
            | value x =>
              have e1 : ev s2.regs x = ev s.regs x := hev x (by simp [Op.operands, Call.operands, hx])
              have e2 : c.args.toList.map (ev s2.regs) = c.args.toList.map (ev s.regs) := List.map_congr_left fun y hy => hev y (by simp only [Op.operands, Call.operands, Array.toList_append, List.mem_append]; exact .inr hy)
              simp only [e1, e2]
            | _ => rfl
          refine does_call ho hc2 (hcd.loc ?_ fun i hi => hs2.row i hi) (fun d hd' => by rw [hs2.n]; exact hd d hd')
          rw [hs2.nx]; exact hm
        · have e1 : ({ s with rows := updRows s.rows (plc (sig ι s.nx) 0 out) } : St).put o.dst (ren (sig ι s.nx) r) = (s.app o.dst (ren (sig ι s.nx) r) (plc (sig ι s.nx) 0 out)).at s.nx := by
            unfold St.app St.at
            cases o.dst <;> rfl
          rw [← e1]; exact hk
        · exact List.mem_map.2 ⟨y, hy, rfl⟩
        · exact Sc_ids _ fun i hi => List.mem_append.2 (.inl hi)
        · exact rowSc_ids _ fun x hx => List.mem_append.2 (.inr (idsPlc_mem hci x hx))
      · exact h.elim
    · exact h.elim

theorem aopD_step {P : Program} {ops : Array Oper} {o : Oper} {s : St} {K : FP → St → Prop} {NX : Nat} (hm : s.nx ≤ NX) (h : aopD P ops o s K) :
    ∃ x : Step, SOk P ops o x s.nx (s.at NX) ∧ (∃ n, K x.fp ((s.app o.dst x.p x.u).at n)) ∧ (∀ y ∈ x.u, y.1 ∈ x.fp.iw) ∧ (o.dst ≠ none → Sc (· ∈ x.fp.im) x.p) ∧
      (∀ i r, (i, r) ∈ x.u → rowSc (· ∈ x.fp.im) r) := by
  unfold aopD at h
  split at h
  · rename_i hg
    obtain ⟨x, h1, h2, h3, h4, h5, _⟩ := aopE_step (ops := ops) hm h
    refine ⟨x, fun s2 hs2 => ?_, h2, h3, h4, h5⟩
    intro B β X w a hr hf K Q hK
    rw [if_pos (by simp [Region.wanted, hg])]
    exact .inl (h1 s2 hs2 B β X w a hr hf K Q hK)
  · rename_i g want hg
    split at h
    · rename_i b hy
      split at h
      · rename_i hbw
        obtain ⟨x, h1, h2, h3, h4, h5, _⟩ := aopE_step (ops := ops) hm h
        refine ⟨x, fun s2 hs2 => ?_, h2, h3, h4, h5⟩
        intro B β X w a hr hf K Q hK
        have hy2 : yieldP ops s2 g want = some b := (yieldP_loc hs2 hg).trans hy
        rw [if_pos (by rw [yieldP_ok hr hg hy2]; exact hbw)]
        exact .inl (h1 s2 hs2 B β X w a hr hf K Q hK)
      · rename_i hbw
        obtain ⟨hd, hk⟩ := h
        refine ⟨⟨⟨[], [], []⟩, undP, []⟩, fun s2 hs2 => ?_, ⟨s.nx, ?_⟩, fun y hy => by simp at hy, fun _ => trivial, fun i cells hc => by simp at hc⟩
        · intro B β X w a hr hf K Q hK
          have hy2 : yieldP ops s2 g want = some b := (yieldP_loc hs2 hg).trans hy
          rw [if_neg (by rw [yieldP_ok hr hg hy2]; exact hbw)]
          refine hK _ _ ⟨β, X, ?_⟩
          have := hr.put (d := o.dst) (p := undP) (v := undef) (by simp [undP, repP, rep]) trivial (fun d hd' => by rw [hs2.n]; exact hd d hd')
          exact this
        · have e1 : s.put o.dst undP = (s.app o.dst undP []).at s.nx := by unfold St.app St.at; cases o.dst <;> rfl
          rw [← e1]; exact hk
    · exact h.elim

structure XOk (o : Oper) (x : Step) : Prop where
  w : ∀ y ∈ x.u, y.1 ∈ x.fp.iw
  p : o.dst ≠ none → Sc (· ∈ x.fp.im) x.p
  u : ∀ i r, (i, r) ∈ x.u → rowSc (· ∈ x.fp.im) r

def RunL (P : Program) (ops : Array Oper) (n0 : Nat) : Nat → List Oper → List Step → St → St → Prop
  | _, [], [], s, s' => s = s'
  | j, o :: l, x :: xs, s, s' => (SOk P ops o x (n0 + 64 * j) s ∧ XOk o x) ∧ RunL P ops n0 (j + 1) l xs (s.app o.dst x.p x.u) s'
  | _, _, _, _, _ => False

theorem at_at {s : St} {a b : Nat} : (s.at a).at b = s.at b := rfl

theorem aopsD_run {P : Program} {ops : Array Oper} {n0 NX : Nat} {K : List FP → St → Prop} : ∀ (l : List Oper) (j : Nat) (acc : List FP) (s : St), s.nx = n0 + 64 * j → n0 + 64 * (j + l.length) = NX → aopsD P ops n0 K j l acc s →
    ∃ xs s', RunL P ops n0 j l xs (s.at NX) s' ∧ K ((xs.map (·.fp)).reverse ++ acc) s' ∧ xs.length = l.length
  | [], j, acc, s, hs, hn, h => by
    simp only [List.length_nil, Nat.add_zero] at hn
    refine ⟨[], s.at NX, rfl, ?_, rfl⟩
    have : s.at NX = s := by rw [← hn, ← hs]; rfl
    rw [this]; exact h
  | o :: l, j, acc, s, hs, hn, h => by
    unfold aopsD at h
    simp only [List.length_cons] at hn
    have hmm : s.nx ≤ NX := by rw [hs]; omega
    obtain ⟨x, h1, ⟨n, h2⟩, h3, h4, h5⟩ := aopD_step (NX := NX) hmm h
    obtain ⟨xs, s', g1, g2, g3⟩ := aopsD_run (NX := NX) l (j + 1) _ _ rfl (by omega) h2
    refine ⟨x :: xs, s', ⟨⟨by rw [← hs]; exact h1, h3, h4, h5⟩, ?_⟩, by simpa using g2, by simp [g3]⟩
    have e : (s.at NX).app o.dst x.p x.u = (s.app o.dst x.p x.u).at NX := app_at
    rw [e]; exact g1

def stepD : Step := ⟨⟨[], [], []⟩, .any, []⟩

theorem RunL.run {P : Program} {ops : Array Oper} {n0 : Nat} {E : Nat → Step} {s' : St} : ∀ (l : List Oper) (j : Nat) (xs : List Step) (s : St), RunL P ops n0 j l xs s s' → (∀ i, i < l.length → ops[j + i]? = l[i]? ∧ E (j + i) = xs.getD i stepD) →
    Run P ops n0 E (List.range' j l.length) s s'
  | [], _, [], s, h, _ => h
  | o :: l, j, x :: xs, s, h, he => by
    obtain ⟨h1, h2⟩ := h
    have e0 := he 0 (by simp)
    simp only [Nat.add_zero, List.getElem?_cons_zero, List.getD_cons_zero] at e0
    simp only [List.length_cons, List.range'_succ]
    unfold Run
    rw [e0.1, e0.2]
    refine ⟨h1.1, RunL.run l (j + 1) xs _ h2 fun i hi => ?_⟩
    have := he (i + 1) (by simpa using hi)
    rw [show j + 1 + i = j + (i + 1) from by omega]
    simpa using this
  | [], _, _ :: _, s, h, _ => h.elim
  | _ :: _, _, [], s, h, _ => h.elim

theorem RunL.xok {P : Program} {ops : Array Oper} {n0 : Nat} {s' : St} : ∀ (l : List Oper) (j : Nat) (xs : List Step) (s : St), RunL P ops n0 j l xs s s' → ∀ i o, l[i]? = some o → XOk o (xs.getD i stepD)
  | [], _, _, s, _, i, o, h => by simp at h
  | o :: l, j, x :: xs, s, h, i, o', ho => by
    obtain ⟨h1, h2⟩ := h
    cases i with
    | zero => simp at ho; subst ho; exact h1.2
    | succ i => simpa using RunL.xok l (j + 1) xs _ h2 i o' (by simpa using ho)
  | _ :: _, _, [], s, h, _, _, _ => h.elim

/-! ## the check -/
def ancM (A : List Nat) : List Edge → Nat
  | [] => 0
  | e :: es => if Region.binds .any e then (1 <<< e.on) ||| A.getD e.on 0 ||| ancM A es else ancM A es

theorem ancM_bit {A : List Nat} {k : Nat} : ∀ {es : List Edge}, (ancM A es).testBit k = true ↔ ∃ e ∈ es, Region.binds .any e = true ∧ (k = e.on ∨ (A.getD e.on 0).testBit k = true)
  | [] => by simp [ancM]
  | e :: es => by
    unfold ancM
    have ih := ancM_bit (A := A) (k := k) (es := es)
    split
    · rename_i hb
      simp only [Nat.testBit_or, Bool.or_eq_true, ih, List.mem_cons, exists_eq_or_imp, hb, true_and]
      have : (1 <<< e.on).testBit k = true ↔ k = e.on := by
        rw [Nat.one_shiftLeft, Nat.testBit_two_pow]; simp [eq_comm]
      rw [this]
    · rename_i hb
      simp only [ih, List.mem_cons, exists_eq_or_imp]
      simp [hb]

def ancs : List Nat → List Oper → List Nat
  | A, [] => A
  | A, o :: os => ancs (A ++ [ancM A o.after.toList]) os

def inB (n0 j Aj i : Nat) : Bool := i < n0 || ((i - n0) / 64 == j || Aj.testBit ((i - n0) / 64))

def rowChk (ops : Array Oper) (n0 : Nat) (A : List Nat) (fs : List FP) (j : Nat) (o : Oper) : Bool :=
  let Aj := A.getD j 0
  let f := fs.getD j ⟨[], [], []⟩
  (Aj == ancM A o.after.toList) && (o.after.toList.all fun e => !Region.binds .any e || e.on < j) && (f.im.all (inB n0 j Aj) && f.iw.all (inB n0 j Aj)) &&
  ((List.range j).all fun i => Aj.testBit i || (match ops[i]? with | some oi => apartB ops oi o (fs.getD i ⟨[], [], []⟩) f | none => true))

def chk (ops : Array Oper) (n0 : Nat) (fs : List FP) : Bool :=
  let A := ancs [] ops.toList
  (List.range ops.size).all fun j => match ops[j]? with | some o => rowChk ops n0 A fs j o | none => true

theorem inB_spec {n0 j Aj i : Nat} (h : inB n0 j Aj i = true) : i < n0 ∨ ∃ k, (k = j ∨ Aj.testBit k = true) ∧ n0 + 64 * k ≤ i ∧ i < n0 + 64 * k + 64 := by
  unfold inB at h
  simp only [Bool.or_eq_true, decide_eq_true_eq, beq_iff_eq] at h
  rcases Nat.lt_or_ge i n0 with hlt | hge
  · exact .inl hlt
  · rcases h with h | h
    · exact .inl h
    · exact .inr ⟨(i - n0) / 64, h, by omega, by omega⟩

theorem chk_steps {ops : Array Oper} {n0 : Nat} {xs : List Step} (h : chk ops n0 (xs.map (·.fp)) = true) (hx : ∀ i o, ops[i]? = some o → XOk o (xs.getD i stepD)) :
    Steps ops n0 (fun i => xs.getD i stepD) (fun i j => ((ancs [] ops.toList).getD j 0).testBit i) := by
  have hrow : ∀ (j : Nat) (o : Oper), ops[j]? = some o → rowChk ops n0 (ancs [] ops.toList) (xs.map (·.fp)) j o = true := fun j o hj => by
    unfold chk at h
    rw [List.all_eq_true] at h
    have := h j (List.mem_range.2 (Array.getElem?_eq_some_iff.1 hj).1)
    simpa [hj] using this
  have hfp : ∀ j, (xs.map (·.fp)).getD j ⟨[], [], []⟩ = (xs.getD j stepD).fp := fun j => by
    rw [List.getD_eq_getElem?_getD, List.getD_eq_getElem?_getD, List.getElem?_map]
    cases xs[j]? <;> rfl
  refine ⟨fun j o hj => (hx j o hj).w, fun j o hj => ⟨(hx j o hj).p, (hx j o hj).u⟩, fun j o hj i hi => ?_, fun i j o1 o2 hij h1 h2 => ?_, fun j o hj e he hb => ?_, fun j o hj k hk => ?_⟩
  · have := hrow j o hj
    unfold rowChk at this
    simp only [Bool.and_eq_true, hfp, List.all_eq_true] at this
    rcases hi with hi | hi
    · exact inB_spec (this.1.2.1 i hi)
    · exact inB_spec (this.1.2.2 i hi)
  · have := hrow j o2 h2
    unfold rowChk at this
    simp only [Bool.and_eq_true, hfp, List.all_eq_true] at this
    have h3 := this.2 i (List.mem_range.2 hij)
    rw [h1] at h3
    simp only [Bool.or_eq_true] at h3
    exact h3
  · have := hrow j o hj
    unfold rowChk at this
    simp only [Bool.and_eq_true, hfp, List.all_eq_true, beq_iff_eq] at this
    refine ⟨?_, ?_⟩
    · have h3 := this.1.1.2 e he
      rw [hb] at h3
      simpa using h3
    · rw [this.1.1.1]
      exact ancM_bit.2 ⟨e, he, hb, .inl rfl⟩
  · have := hrow j o hj
    unfold rowChk at this
    simp only [Bool.and_eq_true, hfp, List.all_eq_true, beq_iff_eq] at this
    rw [this.1.1.1] at hk
    exact ancM_bit.1 hk

/-! ## and so the region -/
theorem SRel.raise {B : Base} {β : Nat → Loc} {X : Nat → Prop} {w : World} {a : Act} {s : St} (h : SRel B β X w a s) {n : Nat} (hn : s.nx ≤ n) : SRel B β X w a (s.at n) :=
  ⟨⟨h.mem.ok, h.mem.inj, fun i hi => h.mem.dead i (Nat.le_trans hn hi), fun i => rowSc.mono (fun x hx => Nat.lt_of_lt_of_le hx hn) _ (h.mem.sr i), h.mem.os, h.mem.tape, h.mem.output, h.mem.size, h.mem.keep, h.mem.xs, h.mem.lent, h.mem.fx,
    Nat.le_trans h.mem.kln hn, h.mem.lk⟩, h.defers, h.size, h.kl, h.rg, fun t => Sc.mono (fun x hx => Nat.lt_of_lt_of_le hx hn) _ (h.sc t)⟩

theorem SRel.drew {B : Base} {β : Nat → Loc} {X : Nat → Prop} {w : World} {a : Act} {s : St} (h : SRel B β X w a s) {w' : World} (hh : w'.heap = w.heap) (h1 : w'.os = w.os) (h2 : w'.tape = w.tape) (h3 : w'.output = w.output) : SRel B β X w' a s :=
  ⟨h.mem.drew hh h1 h2 h3, h.defers, h.size, h.kl, fun t => repP_mono (KeepX.heap hh) (S := (· < s.nx)) (fun i _ => ⟨RowC.refl _, fun _ => rfl⟩) _ _ (h.sc t) (h.rg t), h.sc⟩

theorem aregD.intro {P : Program} (hP : P.follows .mixedOrders = true) {ops : Array Oper} {Q : St → Prop} {s : St} {n0 : Nat} (hn : s.nx = n0) (h : aopsD P ops n0 (fun fs s => chk ops n0 fs.reverse = true ∧ Q s) 0 ops.toList [] s) : aregD P ops Q s := by
  subst hn
  have hlen : ops.toList.length = ops.size := by simp
  obtain ⟨xs, s', h1, ⟨h2, h2'⟩, h3⟩ := aopsD_run (NX := s.nx + 64 * ops.size) ops.toList 0 [] s (by simp) (by simp) h
  simp only [List.append_nil, List.reverse_reverse] at h2
  have hget : ∀ i : Nat, ops[i]? = ops.toList[i]? := fun i => Array.getElem?_toList.symm
  have hS := chk_steps (ops := ops) (xs := xs) h2 fun i o ho => h1.xok ops.toList 0 xs _ i o (by rw [← hget]; exact ho)
  have hrun := h1.run ops.toList 0 xs _ (E := fun i => xs.getD i stepD) (fun i hi => ⟨by rw [Nat.zero_add]; exact hget i, by rw [Nat.zero_add]⟩)
  refine ⟨s', h2', fun B a w id Qx ⟨β, X, hr⟩ hQ => wp_region_any hP ?_⟩
  have hr2 : SRel B β X { w with drawn := w.drawn + 1 } a (s.at (s.nx + 64 * ops.size)) := (hr.drew (w' := { w with drawn := w.drawn + 1 }) rfl rfl rfl rfl).raise (Nat.le_add_right _ _)
  have hfalse : ∀ k, (Array.replicate ops.size false).getD k false = false := fun k => by
    rw [Array.getD_eq_getD_getElem?, Array.getElem?_replicate]; split <;> rfl
  have hrem : remL ops (Array.replicate ops.size false) = List.range' 0 ops.toList.length := by
    unfold remL
    rw [List.filter_eq_self.2 (fun i hi => by rw [getD_tf (by simpa using List.mem_range.1 hi), hfalse]; rfl), hlen, List.range_eq_range']
  refine any_sound hS hQ ops.size _ (s.at (s.nx + 64 * ops.size)) a _ (by simp) (by rw [hrem]; exact hrun) ⟨fun t => Sc.mono (fun i hi => .inl hi) _ (hr.sc t), fun i => rowSc.mono (fun i hi => .inl hi) _ (hr.mem.sr i), fun i hi => .inl ?_, ?_, rfl⟩
    (fun k hk => by rw [hfalse] at hk; cases hk) ⟨β, X, hr2⟩ (by rw [hrem]; simp)
  · rcases Nat.lt_or_ge i s.nx with h | h
    · exact h
    · exact absurd (hr.mem.dead i h) hi
  · have := hr.mem.kln
    show s.kl ≤ s.nx
    rw [hr.kl]; exact this
end Go.AM

namespace Go.AM
open Go

/-! ## the walk of code, regions in any order and all -/
def awpW (P : Program) : Code → (Exit → St → Prop) → St → Prop
  | .skip, Q, s => Q .normal s
  | .region _ ops draw, Q, s => if draw then aopsD P ops s.nx (fun fs s' => chk ops s.nx fs.reverse = true ∧ Q .normal s') 0 ops.toList [] s else aops P ops (Q .normal) ops.toList s
  | .seq x y, Q, s => awpW P x (thenQ (awpW P y Q) Q) s
  | .cond c x y, Q, s => match ev s.regs c with
    | .d (.lit (.bool t)) => if t = true then awpW P x Q s else awpW P y Q s
    | _ => False
  | .block id c, Q, s => awpW P c (blockQ id Q) s
  | .loop c, Q, s => aloop (awpW P c) Q s
  | .exit id, Q, s => Q (.exit id) s
  | .ret, Q, s => Q .ret s
  | _, _, _ => False

theorem awpW_awp {P : Program} (hP : P.follows .mixedOrders = true) : ∀ (c : Code) (Q : Exit → St → Prop) (s : St), awpW P c Q s → awp P c Q s
  | .skip, Q, s, h => h
  | .region id ops draw, Q, s, h => by
    unfold awpW at h
    unfold awp
    cases draw
    · exact h
    · exact aregD.intro hP rfl h
  | .seq x y, Q, s, h => by
    unfold awpW at h
    unfold awp
    refine awp_mono x _ _ s (fun e s h => ?_) (awpW_awp hP x _ s h)
    cases e with
    | normal => exact awpW_awp hP y Q s h
    | _ => exact h
  | .cond c x y, Q, s, h => by
    unfold awpW at h
    unfold awp
    split at h
    · rename_i t hc
      rw [hc]
      show if t = true then _ else _
      split at h
      · rename_i ht; rw [if_pos ht]; exact awpW_awp hP x Q s h
      · rename_i ht; rw [if_neg ht]; exact awpW_awp hP y Q s h
    · exact h.elim
  | .block id c, Q, s, h => by
    unfold awpW at h
    unfold awp
    exact awpW_awp hP c _ s h
  | .loop c, Q, s, h => by
    unfold awpW at h
    unfold awp
    obtain ⟨ι, inv, μ, h0, hround⟩ := h
    exact ⟨ι, inv, μ, h0, fun i => awpW_awp hP c _ _ (hround i)⟩
  | .exit id, Q, s, h => h
  | .ret, Q, s, h => h
  | .label _, _, _, h => (h : False).elim
  | .goto _, _, _, h => (h : False).elim
  | .scope _, _, _, h => (h : False).elim
  | .refuse _, _, _, h => (h : False).elim
  | .rangeFunc _ _ _ _, _, _, h => (h : False).elim

theorem aopE_mono {P : Program} {o : Oper} {s : St} {K K' : FP → St → Prop} (hk : ∀ f s, K f s → K' f s) (h : aopE P o s K) : aopE P o s K' := by
  unfold aopE at *
  split
  · rename_i hb; rw [if_pos hb] at h; exact aop_mono (fun s h => hk _ _ h) h
  · rename_i hb
    rw [if_neg hb] at h
    split
    · rename_i c hop
      simp only [hop] at h
      split
      · rename_i f ps hf
        simp only [hf] at h
        obtain ⟨h1, ps, lent, r, out, ι, T, h2, h3⟩ := h
        exact ⟨h1, ps, lent, r, out, ι, T, h2, hk _ _ h3⟩
      · rename_i hf; simp only [hf] at h
    · rename_i hne
      split at h
      · rename_i c hop; exact absurd hop (hne c)
      · exact h

theorem aopD_mono {P : Program} {ops : Array Oper} {o : Oper} {s : St} {K K' : FP → St → Prop} (hk : ∀ f s, K f s → K' f s) (h : aopD P ops o s K) : aopD P ops o s K' := by
  unfold aopD at *
  split
  · rename_i hg; rw [hg] at h; exact aopE_mono hk h
  · rename_i g want hg
    rw [hg] at h
    simp only at h
    split
    · rename_i b hb
      rw [hb] at h
      simp only at h
      split
      · rename_i hbw; rw [if_pos hbw] at h; exact aopE_mono hk h
      · rename_i hbw; rw [if_neg hbw] at h; exact ⟨h.1, hk _ _ h.2⟩
    · rename_i hb; rw [hb] at h; exact h

theorem aopsD_mono {P : Program} {ops : Array Oper} {n0 : Nat} {K K' : List FP → St → Prop} (hk : ∀ f s, K f s → K' f s) : ∀ (l : List Oper) (j : Nat) (acc : List FP) (s : St), aopsD P ops n0 K j l acc s → aopsD P ops n0 K' j l acc s
  | [], _, _, _, h => hk _ _ h
  | o :: l, j, acc, s, h => by
    unfold aopsD at *
    exact aopD_mono (fun f s h => aopsD_mono hk l _ _ _ h) h

theorem awpW_mono {P : Program} : ∀ (c : Code) (Q Q' : Exit → St → Prop) (s : St), (∀ e s, Q e s → Q' e s) → awpW P c Q s → awpW P c Q' s
  | .skip, Q, Q', s, hq, h => hq _ _ h
  | .region id ops draw, Q, Q', s, hq, h => by
    unfold awpW at *
    cases draw
    · exact aops_mono (hq .normal) _ _ h
    · exact aopsD_mono (fun f s h => ⟨h.1, hq _ _ h.2⟩) _ _ _ _ h
  | .seq x y, Q, Q', s, hq, h => by
    unfold awpW at *
    refine awpW_mono x _ _ s (fun e s h => ?_) h
    cases e with
    | normal => exact awpW_mono y _ _ s hq h
    | _ => exact hq _ _ h
  | .cond c x y, Q, Q', s, hq, h => by
    unfold awpW at *
    split
    · rename_i t hc
      rw [hc] at h
      simp only at h
      split
      · rename_i ht; rw [if_pos ht] at h; exact awpW_mono x _ _ s hq h
      · rename_i ht; rw [if_neg ht] at h; exact awpW_mono y _ _ s hq h
    · rename_i hne
      split at h
      · rename_i t hc; exact absurd hc (hne t)
      · exact h
  | .block id c, Q, Q', s, hq, h => by
    unfold awpW at *
    refine awpW_mono c _ _ s (fun e s h => ?_) h
    cases e with
    | exit id' => simp only [blockQ] at h ⊢; split <;> rename_i hid <;> simp only [hid, if_true, if_false] at h <;> exact hq _ _ h
    | _ => exact hq _ _ h
  | .loop c, Q, Q', s, hq, h => by
    unfold awpW at *
    obtain ⟨ι, inv, μ, h0, hround⟩ := h
    refine ⟨ι, inv, μ, h0, fun i => awpW_mono c _ _ _ (fun e s h => ?_) (hround i)⟩
    cases e with
    | normal => exact h
    | _ => exact hq _ _ h
  | .exit id, Q, Q', s, hq, h => hq _ _ h
  | .ret, Q, Q', s, hq, h => hq _ _ h
  | .label _, _, _, _, _, h => (h : False).elim
  | .goto _, _, _, _, _, h => (h : False).elim
  | .scope _, _, _, _, _, h => (h : False).elim
  | .refuse _, _, _, _, _, h => (h : False).elim
  | .rangeFunc _ _ _ _, _, _, _, _, h => (h : False).elim

/-- what is asked at a function's end -/
def FinR (P : Program) (rs : List ResultVar) (r : PV) (out : List Row) : Exit → St → Prop := fun e s =>
  match e with
  | .normal => ∃ p F ρ, evRes P s rs = some p ∧ Ent s F ρ s.N s.kl [] out ∧ frz s.rows F p = ren (fun i => ρ.getD i 0) r ∧ scB out.length r = true
  | .ret => ∃ p F ρ, evRes P s rs = some p ∧ Ent s F ρ s.N s.kl [] out ∧ frz s.rows F p = ren (fun i => ρ.getD i 0) r ∧ scB out.length r = true
  | _ => False

theorem AFun.of_walk {P : Program} (hP : P.follows .mixedOrders = true) {f : FuncId} {fn : Func} {c : Code} {ps : List PV} {lent : List Row} {r : PV} {out : List Row} {N : Nat} {rs : List ResultVar} (hf : P.funcs[f]? = some fn) (hb : fn.body = some c)
    (hN : fn.ntmps = N) (hrs : fn.results.toList = rs) (hn : ps.length ≤ N) (hsc : scBs lent.length ps = true) (h : awpW P c (FinR P rs r out) (mkSt N lent.length (argRegs 0 ps) lent)) : AFun P f ps lent r out := by
  subst hN; subst hrs
  exact AFun.of_awp hf hb hn hsc (awpW_awp hP c _ _ (awpW_mono c _ _ _ (fun e s h => by cases e <;> exact h) h))

section
variable {P : Program} {Q : Exit → St → Prop} {s : St}
def ALoopW (P : Program) (c : Code) (Q : Exit → St → Prop) (s : St) : Prop := aloop (awpW P c) Q s
theorem aw_skip : awpW P .skip Q s = Q .normal s := rfl
theorem aw_reg {id : Nat} {l : List Oper} : awpW P (.region id l.toArray false) Q s = aops P l.toArray (Q .normal) l s := rfl
def chkK (l : List Oper) (nx : Nat) (Q : Exit → St → Prop) (fs : List FP) (s' : St) : Prop := chk l.toArray nx fs.reverse = true ∧ Q .normal s'
theorem chkK_app {l : List Oper} {nx : Nat} {fs : List FP} {s' : St} : chkK l nx Q fs s' = (chk l.toArray nx fs.reverse = true ∧ Q .normal s') := rfl
theorem aw_regD {id : Nat} {l : List Oper} {N kl nx : Nat} {r : Nat → PV} {rows : Rows} : awpW P (.region id l.toArray true) Q ⟨N, kl, r, rows, nx⟩ =
    aopsD P l.toArray nx (chkK l nx Q) 0 l [] ⟨N, kl, r, rows, nx⟩ := rfl
theorem aw_seq {x y : Code} : awpW P (.seq x y) Q s = awpW P x (thenQ (awpW P y Q) Q) s := rfl
theorem aw_block {id : Nat} {c : Code} : awpW P (.block id c) Q s = awpW P c (blockQ id Q) s := rfl
theorem aw_loop {c : Code} : awpW P (.loop c) Q s = ALoopW P c Q s := rfl
theorem aw_exit {id : Nat} : awpW P (.exit id) Q s = Q (.exit id) s := rfl
theorem aw_ret : awpW P .ret Q s = Q .ret s := rfl
theorem aw_cond {c : Operand} {x y : Code} : awpW P (.cond c x y) Q s = (match ev s.regs c with
    | .d (.lit (.bool t)) => if t = true then awpW P x Q s else awpW P y Q s
    | _ => False) := rfl

variable {d : Option Nat} {t : TypeId} {pos : String} {af : Array Edge} {g : Option (Nat × Bool)} {op : Op} {ops : Array Oper} {n0 j : Nat} {KD : List FP → St → Prop} {acc : List FP} {rest : List Oper} {KF : FP → St → Prop} {N kl nx : Nat} {r : Nat → PV} {rows : Rows}
theorem aopsD_nil : aopsD P ops n0 KD j [] acc s = KD acc s := rfl
def aopsK (P : Program) (ops : Array Oper) (n0 : Nat) (KD : List FP → St → Prop) (j : Nat) (rest : List Oper) (acc : List FP) (f : FP) (s' : St) : Prop := aopsD P ops n0 KD j rest (f :: acc) ⟨s'.N, s'.kl, s'.regs, s'.rows, n0 + 64 * j⟩
theorem aopsK_app {f : FP} {nx' : Nat} : aopsK P ops n0 KD j rest acc f ⟨N, kl, r, rows, nx'⟩ = aopsD P ops n0 KD j rest (f :: acc) ⟨N, kl, r, rows, n0 + 64 * j⟩ := rfl
theorem aopsD_cons : aopsD P ops n0 KD j (⟨d, op, t, pos, af, none⟩ :: rest) acc s = aopE P ⟨d, op, t, pos, af, none⟩ s (aopsK P ops n0 KD (j + 1) rest acc) := rfl
theorem aopsD_guard {k : Nat} {want : Bool} : aopsD P ops n0 KD j (⟨d, op, t, pos, af, some (k, want)⟩ :: rest) acc s = (match yieldP ops s k want with
    | some b => if b = true then aopE P ⟨d, op, t, pos, af, some (k, want)⟩ s (aopsK P ops n0 KD (j + 1) rest acc)
      else dlt d s.N ∧ aopsK P ops n0 KD (j + 1) rest acc ⟨[], [], []⟩ (s.put d undP)
    | none => False) := by
  rw [← dlt_eq]
  show (match yieldP ops s k want with | some b => _ | none => False) = _
  cases yieldP ops s k want <;> rfl
def aopF (KF : FP → St → Prop) (o : Oper) (s s' : St) : Prop := KF (fpB o s s') s'
theorem aopF_app {o : Oper} {s' : St} : aopF KF o s s' = KF (fpB o s s') s' := rfl
theorem aopE_b (h : isB op = true) : aopE P ⟨d, op, t, pos, af, g⟩ s KF = aop P ⟨d, op, t, pos, af, g⟩ s (aopF KF ⟨d, op, t, pos, af, g⟩ s) := by
  unfold aopE; simp only [h, if_true]; rfl
def aopG (KF : FP → St → Prop) (s : St) (d : Option Nat) (fp : FP) (r : PV) (rows' : Rows) : Prop := KF fp ({ s with rows := rows' }.put d r)
theorem aopG_app {fp : FP} {p : PV} {rows' : Rows} : aopG KF ⟨N, kl, r, rows, nx⟩ d fp p rows' = KF fp ((⟨N, kl, r, rows', nx⟩ : St).put d p) := rfl
theorem aopE_call {x : Operand} {args : Array Operand} {ts : Array TypeId} : aopE P ⟨d, .call { callee := .value x, args := args, argTypes := ts }, t, pos, af, g⟩ s KF = (match ev s.regs x with
    | .clo (.func f) first cap => dlt d s.N ∧ ACallD P f (first ++ args.toList.map (ev s.regs) ++ cap) s.rows s.nx (aopG KF s d)
    | _ => False) := by
  unfold aopE
  simp only [isB, calleeOf, dlt_eq]
  cases hx : ev s.regs x with
  | clo fn f c => cases fn <;> rfl
  | _ => rfl
def aopH (K : St → Prop) (s : St) (d : Option Nat) (p : PV) (rows' : Rows) (nx' : Nat) : Prop := K ({ s with rows := rows', nx := nx' }.put d p)
theorem aopH_app {K : St → Prop} {p : PV} {rows' : Rows} {nx' : Nat} : aopH K ⟨N, kl, r, rows, nx⟩ d p rows' nx' = K ((⟨N, kl, r, rows', nx'⟩ : St).put d p) := rfl
theorem aop_callH {x : Operand} {args : Array Operand} {ts : Array TypeId} {K : St → Prop} : aop P ⟨d, .call { callee := .value x, args := args, argTypes := ts }, t, pos, af, g⟩ s K = (match ev s.regs x with
    | .clo (.func f) first cap => isFn P f = true ∧ dlt d s.N ∧ ACall P f (first ++ args.toList.map (ev s.regs) ++ cap) s.rows s.nx (aopH K s d)
    | _ => False) := aop_call
theorem aop_invH {x : Operand} {name : String} {args : Array Operand} {ts : Array TypeId} {K : St → Prop} : aop P ⟨d, .call { callee := .invoke x name, args := args, argTypes := ts }, t, pos, af, g⟩ s K = (match ev s.regs x with
    | .ifc u q => match methOf P s.rows u q name with
      | some (f, r) => isFn P f = true ∧ dlt d s.N ∧ ACall P f (r :: args.toList.map (ev s.regs)) s.rows s.nx (aopH K s d)
      | none => False
    | _ => False) := aop_invoke
theorem fpB_some {d : Nat} {s' : St} : fpB ⟨some d, op, t, pos, af, g⟩ s s' = ⟨irO s.regs op, iwO s.nx s.regs op, ids (s'.regs d) ++ (iwO s.nx s.regs op).flatMap fun i => idsRow (s'.rows i)⟩ := rfl
theorem fpB_none {s' : St} : fpB ⟨none, op, t, pos, af, g⟩ s s' = ⟨irO s.regs op, iwO s.nx s.regs op, (iwO s.nx s.regs op).flatMap fun i => idsRow (s'.rows i)⟩ := rfl

theorem aop_min {x y : Operand} {ts : Array TypeId} {K : St → Prop} : aop P ⟨d, .call { callee := .builtin .min, args := #[x, y], argTypes := ts }, t, pos, af, g⟩ s K = (match ev s.regs x, ev s.regs y with
    | .d (.lit (.int k m)), .d (.lit (.int _ n)) => K1 s d True (.d (.lit (.int k (if n < m then n else m)))) K
    | _, _ => False) := by
  simp only [aop, evOp]
  cases hx : ev s.regs x with
  | d x => cases x with
    | lit v => cases v with
      | int k m => cases hy : ev s.regs y with
        | d y => cases y with
          | lit v => cases v <;> rfl
          | _ => rfl
        | _ => rfl
      | _ => cases ev s.regs y <;> rfl
    | _ => cases ev s.regs y <;> rfl
  | _ => cases ev s.regs y <;> rfl
theorem aop_max {x y : Operand} {ts : Array TypeId} {K : St → Prop} : aop P ⟨d, .call { callee := .builtin .max, args := #[x, y], argTypes := ts }, t, pos, af, g⟩ s K = (match ev s.regs x, ev s.regs y with
    | .d (.lit (.int k m)), .d (.lit (.int _ n)) => K1 s d True (.d (.lit (.int k (if m < n then n else m)))) K
    | _, _ => False) := by
  simp only [aop, evOp]
  cases hx : ev s.regs x with
  | d x => cases x with
    | lit v => cases v with
      | int k m => cases hy : ev s.regs y with
        | d y => cases y with
          | lit v => cases v <;> rfl
          | _ => rfl
        | _ => rfl
      | _ => cases ev s.regs y <;> rfl
    | _ => cases ev s.regs y <;> rfl
  | _ => cases ev s.regs y <;> rfl
theorem aop_index {u : TypeId} {x y : Operand} {K : St → Prop} : aop P ⟨d, .index u x y, t, pos, af, g⟩ s K = (match ev s.regs x, ev s.regs y with
    | .d (.lit (.string str)), .d (.lit (.int _ n)) => if tyIs P u TK.isStr then K1 s d (0 ≤ n ∧ n < str.size) (.d (.lit (.int .u8 (str.data.toList.getD n.toNat 0).toNat))) K else False
    | _, _ => False) := by
  simp only [aop, evOp]
  cases hx : ev s.regs x with
  | d x => cases x with
    | lit v => cases v with
      | string k => cases hy : ev s.regs y with
        | d y => cases y with
          | lit v => cases v with
            | int k n => by_cases h : tyIs P u TK.isStr = true <;> simp only [h, if_true] <;> rfl
            | _ => rfl
          | _ => rfl
        | _ => rfl
      | _ => cases ev s.regs y <;> rfl
    | _ => cases ev s.regs y <;> rfl
  | _ => cases ev s.regs y <;> rfl
end

/-- a call in a region by the callee's contract -/
theorem ACallD.of {P : Program} {f : FuncId} {ps : List PV} {lent : List Row} {r : PV} {out : List Row} (h : AFun P f ps lent r out) (hf : isFn P f = true) {rows : Rows} {m : Nat} (ι T : List Nat) {ps' : List PV} {K : FP → PV → Rows → Prop}
    (hι : ι.length = lent.length) (hout : lent.length ≤ out.length) (hk : out.length - lent.length ≤ 64) (hnd : ι.Nodup) (hlt : ∀ i ∈ ι, i < m) (hargs : argsOk rows T (sig ι m) ps' ps) (hlent : lentOk rows T (sig ι m) 0 lent)
    (hT : T = [] ∨ (nvP r ∧ ∀ row ∈ out, nvRow row)) (hr : scB out.length r = true) (ho : out.all (scRow out.length) = true) (hl : lent.all (scRow lent.length) = true) (hp : scBs lent.length ps = true)
    (hK : K (fpC ι T m r out) (ren (sig ι m) r) (updRows rows (plc (sig ι m) 0 out))) : ACallD P f ps' rows m K :=
  ⟨ps, lent, r, out, ι, T, ⟨hf, h, hι, hout, hk, hnd, hlt, hargs, hlent, hT, hr, ho, hl, hp⟩, hK⟩

/-- a call by the callee's contract -/
theorem ACall.of {P : Program} {f : FuncId} {ps : List PV} {lent : List Row} {r : PV} {out : List Row} (h : AFun P f ps lent r out) {rows : Rows} {nx : Nat} (ι T : List Nat) {ps' : List PV} {K : PV → Rows → Nat → Prop}
    (hι : ι.length = lent.length) (hout : lent.length ≤ out.length) (hnd : ι.Nodup) (hlt : ∀ i ∈ ι, i < nx) (hargs : argsOk rows T (sig ι nx) ps' ps) (hlent : lentOk rows T (sig ι nx) 0 lent)
    (hT : T = [] ∨ (nvP r ∧ ∀ row ∈ out, nvRow row)) (hK : K (ren (sig ι nx) r) (updRows rows (plc (sig ι nx) 0 out)) (nx + (out.length - lent.length))) : ACall P f ps' rows nx K :=
  (h.call ι T hι hout hnd hlt hargs hlent hT).mono fun _ _ _ ⟨h1, h2, h3⟩ => by rw [h1, h2, h3]; exact hK

theorem frzRows_C (rows : Rows) (F : List Nat) (i : Nat) : RowC (rows i) (frzRows rows F i) := by
  simp only [frzRows]
  split
  · cases rows i <;> simp [RowC]
  · cases rows i <;> simp [RowC, frzRow, frzs_length]

/-- rows F frozen ahead of a call -/
theorem ACall.frz {P : Program} {f : FuncId} {ps' : List PV} {rows : Rows} {nx : Nat} {K : PV → Rows → Nat → Prop} (F : List Nat) (h : ACall P f (frzs rows F ps') (frzRows rows F) nx K) : ACall P f ps' rows nx K := by
  intro B β X w vs hm hp hs
  refine (h B β (frzX rows β X F) w vs (hm.freeze F) (repPs_frz hm ps' vs hp) (Scs_frz ps' hs)).mono ?_
  rintro e w' ⟨v, r, rows', nx', β', X', h1, h2, h3, h4, h5, h6, h7⟩
  refine ⟨v, r, rows', nx', β', X', h1, h2, h3, h4, h5, h6, fun p u hsp hpu => h7 p u hsp ?_⟩
  exact repP_mono (S := fun _ => True) (fun b hb hx => ⟨rfl, fun hx' => hx hx'.1⟩) (fun i _ => ⟨frzRows_C rows F i, fun _ => rfl⟩) p u (Sc.mono (fun _ _ => trivial) p hsp) hpu

theorem frzRows_app (rows : Rows) (F : List Nat) (i : Nat) : frzRows rows F i = if i ∈ F then .dead else frzRow rows F (rows i) := rfl

/-- an empty slice, nil or not -/
theorem AFun.nil0 {P : Program} {f : FuncId} {ps : List PV} {lent : List Row} {r : PV} {out : List Row} (sz : Nat) (h : ∀ a cap, AFun P f (.d (.lit (.slice a 0 cap)) :: ps) lent r out) : AFun P f (.d (.sl sz []) :: ps) lent r out := by
  intro B β X w vs hk h0 hm hp
  unfold repPs at hp
  obtain ⟨u, us, rfl, h1, h2⟩ := hp
  unfold repP rep at h1
  obtain ⟨a, cap, vs, h3, _⟩ := h1
  refine h a cap B β X w _ hk h0 hm ?_
  unfold repPs
  refine ⟨u, us, rfl, ?_, h2⟩
  unfold repP rep
  exact h3

/-- less is told of what is handed back -/
theorem AFun.weaken {P : Program} {f : FuncId} {ps : List PV} {lent : List Row} {r r' : PV} {out : List Row} (h : AFun P f ps lent r out) (hs : Sc (· < out.length) r')
    (hr : ∀ rows β w X v, repP rows β w X r v → repP rows β w X r' v) : AFun P f ps lent r' out := by
  intro B β X w vs hk h0 hm hp
  refine (h B β X w vs hk h0 hm hp).mono ?_
  rintro e w' ⟨v, β', X', h1, h2, h3, h4⟩
  exact ⟨v, β', X', h1, h2, hr _ _ _ _ _ h3, hs⟩

theorem nil_sl (sz : Nat) (rows : Rows) (β : Nat → Loc) (w : World) (X : Nat → Prop) (v : Value) (h : repP rows β w X (.d (.lit (.slice none 0 0))) v) : repP rows β w X (.d (.sl sz [])) v := by
  unfold repP rep at *
  subst h
  exact ⟨none, 0, [], rfl, by simp, by simp [maxLen], by simp [repss], fun h => absurd rfl h⟩

theorem beqT (b : Bool) : (b == true) = b := by cases b <;> rfl
theorem beqF (b : Bool) : (b == false) = !b := by cases b <;> rfl

/-- a nil slice is an empty row of one's own -/
theorem Sat.ghost {B : Base} {a : Act} {w : World} {s : St} (t sz : Nat) (h : s.regs t = .d (.lit (.slice none 0 0))) (hs : Sat B s a w) :
    Sat B ⟨s.N, s.kl, upd s.regs t (.own s.nx), upd s.rows s.nx (.own sz []), s.nx + 1⟩ a w := by
  obtain ⟨β, X, hr⟩ := hs
  have hk := KeepX.refl w X
  have hC : ∀ i, i < s.nx → RowC (s.rows i) (upd s.rows s.nx (.own sz []) i) ∧ (upd s.rows s.nx (.own sz []) i ≠ .dead → upd β s.nx ⟨none, 0⟩ i = β i) := fun i hi => by
    rw [upd_ne _ _ (by omega), upd_ne _ _ (by omega)]; exact ⟨RowC.refl _, fun _ => rfl⟩
  refine ⟨upd β s.nx ⟨none, 0⟩, X, hr.mem.new0 none sz, hr.defers, hr.size, hr.kl, fun i => ?_, fun i => ?_⟩
  · show repP _ _ _ _ (upd s.regs t (.own s.nx) i) _
    by_cases hi : i = t
    · subst hi
      rw [upd_same]
      have := hr.rg i
      rw [h] at this
      have hv : a.tmps.getD i undef = .slice none 0 0 := by simpa [repP, rep] using this
      rw [hv]
      unfold repP
      refine ⟨fun sz' el he => ?_, fun cells he => ?_⟩
      · have he' : upd s.rows s.nx (.own sz []) s.nx = .own sz' el := he
        rw [upd_same] at he'
        cases he'
        rw [upd_same]; rfl
      · have he' : upd s.rows s.nx (.own sz []) s.nx = .box cells := he
        rw [upd_same] at he'
        cases he'
    · rw [upd_ne _ _ hi]; exact repP_mono hk hC _ _ (hr.sc i) (hr.rg i)
  · show Sc (· < s.nx + 1) (upd s.regs t (.own s.nx) i)
    by_cases hi : i = t
    · subst hi; rw [upd_same]; show s.nx < s.nx + 1; omega
    · rw [upd_ne _ _ hi]; exact Sc.mono (fun _ k => by omega) _ (hr.sc i)

theorem ALoopW.ghost {P : Program} {c : Code} {Q : Exit → St → Prop} {s : St} (t sz : Nat) (h : s.regs t = .d (.lit (.slice none 0 0)))
    (hk : ALoopW P c Q ⟨s.N, s.kl, upd s.regs t (.own s.nx), upd s.rows s.nx (.own sz []), s.nx + 1⟩) : ALoopW P c Q s := by
  obtain ⟨ι, inv, μ, ⟨i, hi⟩, hr⟩ := hk
  exact ⟨ι, inv, μ, ⟨i, fun B a w hs => hi B a w (hs.ghost t sz h)⟩, hr⟩

theorem repPs_repl {rows : Rows} {β : Nat → Loc} {w : World} {X : Nat → Prop} {q p : PV} (hq : ∀ v, repP rows β w X p v → repP rows β w X q v) : ∀ {cells : List PV} {vs : List Value} (k : Nat), cells[k]? = some p → repPs rows β w X cells vs → repPs rows β w X (cells.set k q) vs
  | [], vs, k, h, _ => by simp at h
  | c :: cs, vs, 0, h, hr => by
    simp only [List.getElem?_cons_zero, Option.some.injEq] at h
    subst h
    unfold repPs at hr
    obtain ⟨u, us, h1, h2, h3⟩ := hr
    show repPs rows β w X (q :: cs) vs
    unfold repPs
    exact ⟨u, us, h1, hq u h2, h3⟩
  | c :: cs, vs, k + 1, h, hr => by
    unfold repPs at hr
    obtain ⟨u, us, h1, h2, h3⟩ := hr
    show repPs rows β w X (c :: cs.set k q) vs
    unfold repPs
    exact ⟨u, us, h1, h2, repPs_repl hq k (by simpa using h) h3⟩

/-- a nil slice in a box's cell is an empty row of one's own -/
theorem Sat.ghostC {B : Base} {a : Act} {w : World} {s : St} (i k sz : Nat) {cells : List PV} (h : s.rows i = .box cells) (hk : cells[k]? = some (.d (.lit (.slice none 0 0)))) (hs : Sat B s a w) :
    Sat B ⟨s.N, s.kl, s.regs, upd (upd s.rows s.nx (.own sz [])) i (.box (cells.set k (.own s.nx))), s.nx + 1⟩ a w := by
  obtain ⟨β, X, hr⟩ := hs
  have hin : i < s.nx := by
    rcases Nat.lt_or_ge i s.nx with hlt | hge
    · exact hlt
    · rw [hr.mem.dead i hge] at h; cases h
  have hm1 := hr.mem.new0 none sz
  have hrow1 : upd s.rows s.nx (.own sz []) i = .box cells := by rw [upd_ne _ _ (by omega)]; exact h
  have hok := hm1.ok i
  rw [hrow1] at hok
  obtain ⟨b, cs, e, fr, g1, g2, g3, g4, g5, g6⟩ := hok
  have hsc := hm1.scr i cells hrow1
  obtain ⟨hm2, _, hC⟩ := hm1.write (w' := w) i b (.cells cs e fr) (.box (cells.set k (.own s.nx))) (by rw [hrow1]; simp [rblk, g1])
    (by
      have := setBlk_self g3
      have h2 := congrArg World.heap this
      exact h2.symm) rfl rfl rfl (by rw [hrow1]; simp [RowC]) (fun c hc => by simp [rblk, g1] at hc; exact hc.symm)
    (fun hC hK => by
      refine ⟨b, cs, e, fr, g1, g2, g3, g4, ?_, by rw [List.length_set]; exact g6⟩
      rw [List.length_set]
      refine repPs_repl (fun v hv => ?_) k hk (repPs_mono hK hC cells _ hsc g5)
      have hv' : v = .slice none 0 0 := by simpa [repP, rep] using hv
      subst hv'
      unfold repP
      refine ⟨fun sz' el he => ?_, fun cells' he => ?_⟩
      · rw [upd_ne _ _ (by omega), upd_same] at he
        cases he
        rw [upd_same]; rfl
      · rw [upd_ne _ _ (by omega), upd_same] at he
        cases he)
    (Scs.of_mem fun p hp => by
      rcases List.mem_or_eq_of_mem_set hp with hp | rfl
      · exact Scs.mem hsc p hp
      · show s.nx < s.nx + 1; omega)
  have hK := KeepX.refl w X
  have hC1 : ∀ j, j < s.nx → RowC (s.rows j) (upd s.rows s.nx (.own sz []) j) ∧ (upd s.rows s.nx (.own sz []) j ≠ .dead → upd β s.nx ⟨none, 0⟩ j = β j) := fun j hj => by
    rw [upd_ne _ _ (by omega), upd_ne _ _ (by omega)]; exact ⟨RowC.refl _, fun _ => rfl⟩
  exact ⟨_, X, hm2, hr.defers, hr.size, hr.kl, fun t => repP_mono hK hC _ _ (Sc.mono (fun _ k => by omega) _ (hr.sc t)) (repP_mono hK hC1 _ _ (hr.sc t) (hr.rg t)), fun t => Sc.mono (fun _ k => by show _ < s.nx + 1; omega) _ (hr.sc t)⟩

theorem ALoopW.ghostC {P : Program} {c : Code} {Q : Exit → St → Prop} {s : St} (i k sz : Nat) (cells : List PV) (h : s.rows i = .box cells) (hc : cells[k]? = some (.d (.lit (.slice none 0 0))))
    (hk : ALoopW P c Q ⟨s.N, s.kl, s.regs, upd (upd s.rows s.nx (.own sz [])) i (.box (cells.set k (.own s.nx))), s.nx + 1⟩) : ALoopW P c Q s := by
  obtain ⟨ι, inv, μ, ⟨j, hj⟩, hr⟩ := hk
  exact ⟨ι, inv, μ, ⟨j, fun B a w hs => hj B a w (hs.ghostC i k sz h hc)⟩, hr⟩

theorem ALoopW.intro {P : Program} {c : Code} {Q : Exit → St → Prop} {s : St} {ι : Type} (N kl : Nat) (R : ι → List (Nat × PV)) (W : ι → List Row) (μ : ι → Nat) (i : ι) (F ρ : List Nat) (h0 : Ent s F ρ N kl (R i) (W i))
    (hr : ∀ i, awpW P c (thenQ (fun s' => ∃ j F ρ, Ent s' F ρ N kl (R j) (W j) ∧ μ j < μ i) Q) (mkSt N kl (R i) (W i))) : ALoopW P c Q s := by
  refine ⟨ι, fun i => mkSt N kl (R i) (W i), μ, ⟨i, fun _ _ _ h => h0.sat h⟩, fun i => ?_⟩
  have := hr i
  refine awpW_mono _ _ _ _ (fun e s h => ?_) this
  cases e with
  | normal => obtain ⟨j, F, ρ, h1, h2⟩ := h; exact ⟨j, fun _ _ _ h => h1.sat h, h2⟩
  | _ => exact h
end Go.AM
