/- Proved here: a part of an abstract machine for the walks of this program, and that it tells the truth about the model. No condition. -/
import Derived.Test.YtjaklhbifgbiaaaAmV
set_option linter.unusedSimpArgs false
set_option linter.unusedVariables false
namespace Go.AM
open Go

/-! ## what an operation looks at, and where it writes -/
mutual
def ids : PV → List Nat
  | .d _ => []
  | .own i => [i]
  | .win i _ _ => [i]
  | .ptr i _ => [i]
  | .eptr i _ _ => [i]
  | .iptr _ => []
  | .clo _ f c => idss f ++ idss c
  | .ifc _ x => ids x
  | .agg ps => idss ps
  | .tup ps => idss ps
  | .any => []
def idss : List PV → List Nat
  | [] => []
  | p :: ps => ids p ++ idss ps
end

mutual
theorem Sc_ids {S : Nat → Prop} : ∀ p, (∀ i ∈ ids p, S i) → Sc S p
  | .d _, _ => trivial
  | .own i, h => h i (by simp [ids])
  | .win i _ _, h => h i (by simp [ids])
  | .ptr i _, h => h i (by simp [ids])
  | .eptr i _ _, h => h i (by simp [ids])
  | .iptr _, _ => trivial
  | .clo _ f c, h => ⟨Scs_idss f fun i hi => h i (by simp [ids, hi]), Scs_idss c fun i hi => h i (by simp [ids, hi])⟩
  | .ifc _ x, h => Sc_ids x fun i hi => h i (by simpa [ids] using hi)
  | .agg ps, h => Scs_idss ps fun i hi => h i (by simpa [ids] using hi)
  | .tup ps, h => Scs_idss ps fun i hi => h i (by simpa [ids] using hi)
  | .any, _ => trivial
theorem Scs_idss {S : Nat → Prop} : ∀ ps, (∀ i ∈ idss ps, S i) → Scs S ps
  | [], _ => trivial
  | p :: ps, h => ⟨Sc_ids p fun i hi => h i (by simp [idss, hi]), Scs_idss ps fun i hi => h i (by simp [idss, hi])⟩
end

def idsRow : Row → List Nat
  | .box cells => idss cells
  | _ => []

def irO (regs : Nat → PV) : Op → List Nat
  | .box _ x => ids (ev regs x)
  | .build _ parts => idss (parts.toList.map fun x => ev regs x.2)
  | .load _ x => ids (ev regs x)
  | .store _ x y => ids (ev regs x) ++ ids (ev regs y)
  | .nilCheck x => ids (ev regs x)
  | .binOp _ _ x y _ => ids (ev regs x) ++ ids (ev regs y)
  | .convert _ _ x => ids (ev regs x)
  | .slice _ x _ _ _ => ids (ev regs x)
  | .fieldAddr _ x _ => ids (ev regs x)
  | .indexAddr _ x _ => ids (ev regs x)
  | .call c => idss (c.args.toList.map (ev regs))
  | _ => []

def iwO (nx : Nat) (regs : Nat → PV) : Op → List Nat
  | .alloc _ => [nx]
  | .box _ _ => [nx]
  | .buildSlice _ _ _ => [nx]
  | .makeSlice _ _ _ => [nx]
  | .store _ x _ => ids (ev regs x)
  | .call c => match c.callee with
    | .builtin .append => nx :: idss (c.args.toList.map (ev regs))
    | _ => []
  | _ => []

/-! ## locality -/
theorem cellsP_loc {rows rows' : Rows} {p : PV} (h : ∀ i ∈ ids p, rows' i = rows i) : cellsP rows' p = cellsP rows p := by
  unfold cellsP
  split <;> first | rfl | (rw [h _ (by simp [ids])])
theorem getC_loc {rows rows' : Rows} {p : PV} {n : Nat} (h : ∀ i ∈ ids p, rows' i = rows i) : getC rows' p n = getC rows p n := by
  cases p <;> simp only [getC] <;> (rw [h _ (by simp [ids])])
theorem evLoad_loc {P : Program} {rows rows' : Rows} {t : TypeId} {p : PV} (h : ∀ i ∈ ids p, rows' i = rows i) : evLoad P rows' t p = evLoad P rows t p := by
  simp only [evLoad, getC_loc h]
theorem putC_loc {rows rows' : Rows} {p : PV} {ps : List PV} (h : ∀ i ∈ ids p, rows' i = rows i) : putC rows' p ps = putC rows p ps := by
  cases p <;> simp only [putC] <;> (rw [h _ (by simp [ids])])
theorem evStore_loc {P : Program} {rows rows' : Rows} {t : TypeId} {p q : PV} (h : ∀ i ∈ ids p ++ ids q, rows' i = rows i) : evStore P rows' t p q = evStore P rows t p q := by
  simp only [evStore, cellsP_loc (p := q) (fun i hi => h i (by simp [hi])), putC_loc (p := p) (fun i hi => h i (by simp [hi]))]
theorem evNil_loc {rows rows' : Rows} {p : PV} (h : ∀ i ∈ ids p, rows' i = rows i) : evNil rows' p = evNil rows p := by
  cases p <;> simp only [evNil] <;> (rw [h _ (by simp [ids])])
theorem evBinP_loc {P : Program} {op : BinOp} {rows rows' : Rows} {t : TypeId} {p q : PV} (h : ∀ i ∈ ids p ++ ids q, rows' i = rows i) : evBinP P op t rows' p q = evBinP P op t rows p q := by
  unfold evBinP
  split <;> try rfl
  rw [h _ (by simp [ids])]
theorem viewOf_loc {rows rows' : Rows} {p : PV} (h : ∀ i ∈ ids p, rows' i = rows i) : viewOf rows' p = viewOf rows p := by
  unfold viewOf
  split <;> first | rfl | (rw [h _ (by simp [ids])])
theorem evLen_loc {P : Program} {rows rows' : Rows} {t : TypeId} {p : PV} (h : ∀ i ∈ ids p, rows' i = rows i) : evLen P rows' t p = evLen P rows t p := by
  unfold evLen
  split <;> try rfl
  rw [viewOf_loc h]
theorem evConv_loc {P : Program} {rows rows' : Rows} {t t' : TypeId} {p : PV} (h : ∀ i ∈ ids p, rows' i = rows i) : evConv P rows' t t' p = evConv P rows t t' p := by
  unfold evConv
  split <;> try rfl
  rw [viewOf_loc h]
theorem evConvId_loc {P : Program} {rows rows' : Rows} {t t' : TypeId} {p : PV} (h : ∀ i ∈ ids p, rows' i = rows i) : evConvId P rows' t t' p = evConvId P rows t t' p := by
  unfold evConvId
  split <;> first | rfl | (rw [h _ (by simp [ids])])
theorem evSl_loc {P : Program} {rows rows' : Rows} {t : TypeId} {p : PV} {lo hi : Option Int} (h : ∀ i ∈ ids p, rows' i = rows i) : evSl P rows' t p lo hi = evSl P rows t p lo hi := by
  unfold evSl
  split <;> try rfl
  rw [h _ (by simp [ids])]
theorem aliveP_loc {rows rows' : Rows} {p : PV} (h : ∀ i ∈ ids p, rows' i = rows i) : aliveP rows' p = aliveP rows p := by
  cases p <;> simp only [aliveP] <;> (rw [h _ (by simp [ids])])
theorem evField_loc {P : Program} {rows rows' : Rows} {t : TypeId} {p : PV} {n : Nat} (h : ∀ i ∈ ids p, rows' i = rows i) : evField P rows' t p n = evField P rows t p n := by
  simp only [evField, aliveP_loc h]
theorem evIdx_loc {P : Program} {rows rows' : Rows} {t : TypeId} {p : PV} {n : Int} (h : ∀ i ∈ ids p, rows' i = rows i) : evIdx P rows' t p n = evIdx P rows t p n := by
  cases p with
  | own i => have := h i (by simp [ids]); simp only [evIdx, this]
  | win i off m => have := h i (by simp [ids]); simp only [evIdx, this]
  | ptr i off => have := h i (by simp [ids]); simp only [evIdx, this]
  | d x => cases x <;> rfl
  | _ => rfl
theorem srcEl_loc {P : Program} {rows rows' : Rows} {t : TypeId} {sz : Nat} {p : PV} (h : ∀ i ∈ ids p, rows' i = rows i) : srcEl P rows' t sz p = srcEl P rows t sz p := by
  unfold srcEl
  split <;> try rfl
  rw [viewOf_loc h]
theorem baseEl_loc {rows rows' : Rows} {sz : Nat} {p : PV} (h : ∀ i ∈ ids p, rows' i = rows i) : baseEl rows' sz p = baseEl rows sz p := by
  unfold baseEl
  split <;> first | rfl | (rw [h _ (by simp [ids])])
theorem fillP_loc {P : Program} {rows rows' : Rows} {fs : List (Nat × TypeId)} : ∀ {parts : List (Nat × PV)} {cells : List PV}, (∀ i ∈ idss (parts.map (·.2)), rows' i = rows i) → fillP P rows' fs cells parts = fillP P rows fs cells parts
  | [], _, _ => rfl
  | (i, p) :: rest, cells, h => by
    simp only [List.map_cons, idss] at h
    simp only [fillP]
    rw [cellsP_loc fun i hi => h i (by simp [hi])]
    split <;> try rfl
    split <;> try rfl
    rw [fillP_loc fun i hi => h i (by simp [hi])]

theorem ev_loc {regs regs' : Nat → PV} {x : Operand} (h : ∀ t, x = .tmp t → regs' t = regs t) : ev regs' x = ev regs x := by
  cases x with
  | tmp t => exact h t rfl
  | _ => rfl

/-- a builtin one: no call of a Go function -/
def isB : Op → Bool
  | .call c => (match c.callee with | .builtin _ => true | _ => false)
  | _ => true

theorem bdV_loc {regs regs' : Nat → PV} {x : Option Operand} (h : ∀ y, x = some y → ev regs' y = ev regs y) : bdV regs' x = bdV regs x := by
  cases x with
  | none => rfl
  | some y => simp only [bdV, h y rfl]

theorem mem_operands {o : Op} {x : Operand} {t : Nat} (hx : x ∈ o.operands.toList) (ht : x = .tmp t) : t ∈ (o.operands.toList.filterMap fun | .tmp t => some t | _ => none) := by
  subst ht
  exact List.mem_filterMap.2 ⟨_, hx, rfl⟩

theorem evOp_loc {P : Program} {o : Oper} {s s' : St} (hn : s'.nx = s.nx) (hr : ∀ x ∈ o.op.operands.toList, ev s'.regs x = ev s.regs x) (hrow : ∀ i ∈ irO s.regs o.op, s'.rows i = s.rows i) : evOp P o s' = evOp P o s := by
  unfold evOp
  cases hop : o.op <;> simp only [hop, Op.operands, irO] at hr hrow ⊢
  case move x => rw [hr x (by simp)]
  case assign x => rw [hr x (by simp)]
  case pick c x y => rw [hr x (by simp), hr y (by simp), hr c (by simp)]
  case alloc t => simp only [evAlloc, hn]
  case box t x => rw [hr x (by simp)]; simp only [evBox, hn, cellsP_loc hrow]
  case build t parts =>
    have e : (parts.toList.map fun x => (x.1, ev s'.regs x.2)) = parts.toList.map fun x => (x.1, ev s.regs x.2) := List.map_congr_left fun x hx => by
      rw [hr x.2 (by simp; exact ⟨x.1, by simpa using hx⟩)]
    rw [e]
    have e2 : ∀ fs cells, fillP P s'.rows fs cells (parts.toList.map fun x => (x.1, ev s.regs x.2)) = fillP P s.rows fs cells (parts.toList.map fun x => (x.1, ev s.regs x.2)) := fun fs cells =>
      fillP_loc (by rw [List.map_map]; exact hrow)
    simp only [evBuild, e2]
  case buildSlice t n parts =>
    have e : (parts.toList.map fun x => (x.1, ev s'.regs x.2)) = parts.toList.map fun x => (x.1, ev s.regs x.2) := List.map_congr_left fun x hx => by
      rw [hr x.2 (by simp; exact ⟨x.1, by simpa using hx⟩)]
    rw [e]; simp only [evBS, hn]
  case load t x => rw [hr x (by simp), evLoad_loc hrow]
  case store t x y => rw [hr x (by simp), hr y (by simp), evStore_loc hrow]
  case nilCheck x => rw [hr x (by simp), evNil_loc hrow]
  case binOp op t x y t' => rw [hr x (by simp), hr y (by simp), evBinP_loc hrow]
  case unOp op t x => rw [hr x (by simp)]
  case convert a b x => rw [hr x (by simp), evConv_loc hrow, evConvId_loc hrow]
  case makeSlice t x y => rw [hr x (by simp), hr y (by simp)]; simp only [evMake, hn]
  case makeInterface t x => rw [hr x (by simp)]
  case makeFunc fn f c =>
    have e1 : f.toList.map (ev s'.regs) = f.toList.map (ev s.regs) := List.map_congr_left fun x hx => hr x (by simp; exact .inl (by simpa using hx))
    have e2 : c.toList.map (ev s'.regs) = c.toList.map (ev s.regs) := List.map_congr_left fun x hx => hr x (by simp; exact .inr (by simpa using hx))
    rw [e1, e2]
  case slice t x lo hi mx =>
    rw [bdV_loc (x := lo) fun y hy => hr y (by subst hy; simp), bdV_loc (x := hi) fun y hy => hr y (by subst hy; simp), hr x (by simp)]
    simp only [evSl_loc hrow]
  case fieldAddr t x f => rw [hr x (by simp), evField_loc hrow]
  case indexAddr t x y => rw [hr x (by simp), hr y (by simp)]; simp only [evIdx_loc hrow]
  case index t x y => rw [hr x (by simp), hr y (by simp)]
  case extract x i => rw [hr x (by simp)]
  case call c =>
    have hr' : ∀ x ∈ c.args.toList, ev s'.regs x = ev s.regs x := fun x hx => hr x (by simp only [Call.operands, Array.toList_append, List.mem_append]; exact .inr hx)
    split
    · rename_i x t h1 h2 h3
      rw [h2] at hr' hrow
      rw [hr' x (by simp), evLen_loc fun i hi => hrow i (by simp [idss, hi])]
    · rename_i x y h1 h2
      rw [h2] at hr'
      rw [hr' x (by simp), hr' y (by simp)]
    · rename_i x y h1 h2
      rw [h2] at hr'
      rw [hr' x (by simp), hr' y (by simp)]
    · rename_i x y t t' h1 h2 h3
      rw [h2] at hr' hrow
      rw [hr' x (by simp), hr' y (by simp)]
      have e1 : ∀ sz, baseEl s'.rows sz (ev s.regs x) = baseEl s.rows sz (ev s.regs x) := fun sz => baseEl_loc fun i hi => hrow i (by simp [idss, hi])
      have e2 : ∀ sz, srcEl P s'.rows t' sz (ev s.regs y) = srcEl P s.rows t' sz (ev s.regs y) := fun sz => srcEl_loc fun i hi => hrow i (by simp [idss, hi])
      simp only [evApp, e1, e2, hn]
    · rfl

theorem cellsP_Sc {rows : Rows} {p : PV} {ps : List PV} (h : cellsP rows p = some ps) {S : Nat → Prop} (hs : Sc S p) : Scs S ps := by
  unfold cellsP at h
  split at h
  · simp only [Option.some.injEq] at h; subst h; exact hs
  · simp only [Option.some.injEq] at h; subst h
    exact Scs.of_mem fun p hp => by obtain ⟨v, _, rfl⟩ := List.mem_map.1 hp; trivial
  · split at h
    · simp only [Option.some.injEq] at h; subst h; exact ⟨trivial, trivial⟩
    · cases h
  · simp only [Option.some.injEq] at h; subst h; exact ⟨trivial, trivial⟩
  · split at h
    · simp only [Option.some.injEq] at h; subst h; exact ⟨hs, trivial⟩
    · cases h
  · split at h
    · cases h
    · simp only [Option.some.injEq] at h; subst h; exact ⟨hs, trivial⟩
  · simp only [Option.some.injEq] at h; subst h; exact ⟨hs, trivial⟩
  · simp only [Option.some.injEq] at h; subst h; exact ⟨hs, trivial⟩
  · cases h

/-- an effect, as its new row is number m -/
inductive EffS (s : St) (e : Nat → Eff) : Prop
  | same (h : ∀ n, e n = e 0) (h0 : (e 0).nn = 0)
  | own (ok : Prop) (u : List (Nat × Row)) (sz : Nat) (el : List (List DV)) (h : ∀ n, e n = ⟨ok, .own n, u ++ [(n, .own sz el)], 1⟩) (hu : u = [] ∨ ∃ i, u = [(i, .dead)])
  | box (ok : Prop) (ps : List PV) (h : ∀ n, e n = ⟨ok, .ptr n 0, [(n, .box ps)], 1⟩) (hps : ∀ S : Nat → Prop, (∀ x, Sc S (ev s.regs x)) → Scs S ps)

theorem evOp_shift {P : Program} {o : Oper} {s : St} {e : Eff} (h : evOp P o s = some e) : ∃ f : Nat → Eff, (∀ n, evOp P o { s with nx := n } = some (f n)) ∧ f s.nx = e ∧ EffS s f := by
  unfold evOp at h ⊢
  cases hop : o.op <;> simp only [hop] at h ⊢
  case alloc t =>
    simp only [evAlloc] at h ⊢
    split at h
    · rename_i ty hty
      split at h
      · rename_i z hz
        split at h
        · rename_i hoc
          simp only [Option.some.injEq] at h; subst h
          simp only [hz, hoc, if_true, Option.some.injEq]
          exact ⟨fun n => effNew (.box (z.cells.toList.map fun v => .d (.lit v))) n (.ptr n 0) True, fun n => rfl, rfl, .box _ _ (fun n => rfl) fun S _ => Scs.of_mem fun p hp => by
            obtain ⟨v, _, rfl⟩ := List.mem_map.1 hp; trivial⟩
        · cases h
      · cases h
    · cases h
  case box t x =>
    simp only [evBox] at h ⊢
    split at h
    · rename_i ps hps
      simp only [Option.some.injEq] at h; subst h
      simp only [Option.some.injEq]
      exact ⟨fun n => effNew (.box ps) n (.ptr n 0) True, fun n => rfl, rfl, .box _ _ (fun n => rfl) fun S hS => cellsP_Sc hps (hS x)⟩
    · cases h
  case buildSlice t n parts =>
    simp only [evBS] at h ⊢
    split at h
    · rename_i ty hty
      split at h
      · rename_i et hk
        split at h
        · rename_i ety he
          split at h
          · rename_i z hz
            split at h
            · rename_i hc
              split at h
              · rename_i el hel
                simp only [Option.some.injEq] at h; subst h
                simp only [hk, he, hz, hc, if_true, hel, Option.some.injEq]
                exact ⟨fun n => effNew (.own ety.size el) n (.own n) True, fun n => rfl, rfl, .own _ [] _ _ (fun n => rfl) (.inl rfl)⟩
              · cases h
            · cases h
          · cases h
        · cases h
      · cases h
    · cases h
  case makeSlice t x y =>
    simp only [evMake] at h ⊢
    split at h
    · rename_i k1 l hx
      split at h
      · rename_i k2 c hy
        split at h
        · rename_i ty hty
          split at h
          · rename_i et hk
            split at h
            · rename_i ety he
              split at h
              · rename_i z hz
                split at h
                · rename_i hc
                  simp only [Option.some.injEq] at h; subst h
                  simp only [hx, hy, hty, hk, he, hz, hc, if_true, Option.some.injEq]
                  exact ⟨fun n => effNew (.own ety.size (litsOf z.cells l.toNat)) n (.own n) (0 ≤ l ∧ l ≤ c ∧ c ≤ 9223372036854775807 ∧ (ety.bytes : Int) * c ≤ 281474976710656), fun n => by simp, rfl, .own _ [] _ _ (fun n => rfl) (.inl rfl)⟩
                · cases h
              · cases h
            · cases h
          · cases h
        · cases h
      · cases h
    · cases h
  case call c =>
    split at h
    · simp only [Option.map_eq_some_iff] at h
      obtain ⟨q, h1, rfl⟩ := h
      exact ⟨fun _ => _, fun _ => by rw [h1]; rfl, rfl, .same (fun _ => rfl) rfl⟩
    · split at h
      · simp only [Option.some.injEq] at h; subst h
        rename_i hx hy
        exact ⟨fun _ => _, fun _ => rfl, rfl, .same (fun _ => rfl) rfl⟩
      · cases h
    · split at h
      · simp only [Option.some.injEq] at h; subst h
        rename_i hx hy
        exact ⟨fun _ => _, fun _ => rfl, rfl, .same (fun _ => rfl) rfl⟩
      · cases h
    · rename_i x y t t' h1 h2 h3
      simp only [evApp] at h ⊢
      split at h
      · rename_i ty hty
        split at h
        · rename_i et hk
          split at h
          · rename_i ety he
            split at h
            · rename_i z hz
              split at h
              · rename_i hc
                split at h
                · rename_i i el0 el1 hb hs
                  simp only [Option.some.injEq] at h; subst h
                  simp only [hk, he, hz, hc, if_true, hb, hs, Option.some.injEq]
                  refine ⟨fun n => effApp n ety.size ety.bytes i el0 el1, fun n => rfl, rfl, ?_⟩
                  cases i with
                  | none => exact .own _ [] _ _ (fun n => rfl) (.inl rfl)
                  | some i => exact .own _ [(i, .dead)] _ _ (fun n => rfl) (.inr ⟨i, rfl⟩)
                · cases h
              · cases h
            · cases h
          · cases h
        · cases h
      · cases h
    · cases h
  all_goals exact ⟨fun _ => e, fun _ => h, rfl, .same (fun _ => rfl) (by
    first
    | (simp only [Option.some.injEq] at h; subst h; rfl)
    | (simp only [Option.map_eq_some_iff] at h; obtain ⟨_, _, rfl⟩ := h; rfl)
    | (repeat' split at h) <;> first | (cases h; rfl) | (cases h; done) | (simp only [Option.some.injEq] at h; subst h; rfl) | (simp only [Option.map_eq_some_iff] at h; obtain ⟨_, _, rfl⟩ := h; rfl))⟩
end Go.AM
