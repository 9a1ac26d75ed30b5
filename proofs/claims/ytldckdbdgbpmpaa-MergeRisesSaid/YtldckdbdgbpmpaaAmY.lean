/- Proved here: operations of a region may be made in any order. No condition. -/
import Derived.Test.YtldckdbdgbpmpaaAmV
import Derived.Orders
set_option linter.unusedSimpArgs false
set_option linter.unusedVariables false
namespace Go.AM
open Go

/-! ## what an operation looks at, and where it writes -/
mutual
def ids : PV → List Nat
  | .d _ => []
  | .own i => [i]
  | .win i _ _ => [i]
  | .ptr i _ => [i]
  | .mp i => [i]
  | .eptr i _ _ => [i]
  | .iptr _ => []
  | .clo _ f c => idss f ++ idss c
  | .ifc _ x => ids x
  | .agg ps => idss ps
  | .tup ps => idss ps
  | .any => []
def idss : List PV → List Nat
  | [] => []
  | p :: ps => ids p ++ idss ps
end

mutual
theorem Sc_ids {S : Nat → Prop} : ∀ p, (∀ i ∈ ids p, S i) → Sc S p
  | .d _, _ => trivial
  | .own i, h => h i (by simp [ids])
  | .win i _ _, h => h i (by simp [ids])
  | .ptr i _, h => h i (by simp [ids])
  | .mp i, h => h i (by simp [ids])
  | .eptr i _ _, h => h i (by simp [ids])
  | .iptr _, _ => trivial
  | .clo _ f c, h => ⟨Scs_idss f fun i hi => h i (by simp [ids, hi]), Scs_idss c fun i hi => h i (by simp [ids, hi])⟩
  | .ifc _ x, h => Sc_ids x fun i hi => h i (by simpa [ids] using hi)
  | .agg ps, h => Scs_idss ps fun i hi => h i (by simpa [ids] using hi)
  | .tup ps, h => Scs_idss ps fun i hi => h i (by simpa [ids] using hi)
  | .any, _ => trivial
theorem Scs_idss {S : Nat → Prop} : ∀ ps, (∀ i ∈ idss ps, S i) → Scs S ps
  | [], _ => trivial
  | p :: ps, h => ⟨Sc_ids p fun i hi => h i (by simp [idss, hi]), Scs_idss ps fun i hi => h i (by simp [idss, hi])⟩
end

def idsRow : Row → List Nat
  | .box cells => idss cells
  | .map _ _ ents => ents.flatMap fun e => ids e.2.2
  | .itm src _ _ _ => [src]
  | _ => []

theorem rowSc_ids {S : Nat → Prop} : ∀ r : Row, (∀ i ∈ idsRow r, S i) → rowSc S r
  | .box cells, h => Scs_idss cells h
  | .map _ _ _, h => fun e he => Sc_ids e.2.2 fun i hi => h i (List.mem_flatMap.2 ⟨e, he, hi⟩)
  | .itm src _ _ _, h => h src (List.mem_singleton.2 rfl)
  | .dead, _ => trivial
  | .own _ _, _ => trivial
  | .iter _ _, _ => trivial

def irO (regs : Nat → PV) : Op → List Nat
  | .box _ x => ids (ev regs x)
  | .build _ parts => idss (parts.toList.map fun x => ev regs x.2)
  | .buildSlice _ _ parts => idss (parts.toList.map fun x => ev regs x.2)
  | .load _ x => ids (ev regs x)
  | .store _ x y => ids (ev regs x) ++ ids (ev regs y)
  | .nilCheck x => ids (ev regs x)
  | .binOp _ _ x y _ => ids (ev regs x) ++ ids (ev regs y)
  | .convert _ _ x => ids (ev regs x)
  | .slice _ x _ _ _ => ids (ev regs x)
  | .fieldAddr _ x _ => ids (ev regs x)
  | .indexAddr _ x _ => ids (ev regs x)
  | .lookup _ x _ _ => ids (ev regs x)
  | .mapUpdate _ x _ _ => ids (ev regs x)
  | .call c => idss (c.args.toList.map (ev regs))
  | _ => []

def iwO (nx : Nat) (regs : Nat → PV) : Op → List Nat
  | .alloc _ => [nx]
  | .box _ _ => [nx]
  | .buildSlice _ _ _ => [nx]
  | .makeSlice _ _ _ => [nx]
  | .store _ x _ => ids (ev regs x)
  | .mapUpdate _ x _ _ => ids (ev regs x)
  | .call c => match c.callee with
    | .builtin .append => nx :: idss (c.args.toList.map (ev regs))
    | .builtin .delete => idss (c.args.toList.map (ev regs))
    | _ => []
  | _ => []

/-! ## locality -/
theorem cellsP_loc {rows rows' : Rows} {p : PV} (h : ∀ i ∈ ids p, rows' i = rows i) : cellsP rows' p = cellsP rows p := by
  unfold cellsP
  split <;> first | rfl | (rw [h _ (by simp [ids])])
theorem getC_loc {rows rows' : Rows} {p : PV} {n : Nat} (h : ∀ i ∈ ids p, rows' i = rows i) : getC rows' p n = getC rows p n := by
  cases p <;> simp only [getC] <;> (rw [h _ (by simp [ids])])
theorem evLoad_loc {P : Program} {rows rows' : Rows} {t : TypeId} {p : PV} (h : ∀ i ∈ ids p, rows' i = rows i) : evLoad P rows' t p = evLoad P rows t p := by
  simp only [evLoad, getC_loc h]
theorem putC_loc {rows rows' : Rows} {p : PV} {ps : List PV} (h : ∀ i ∈ ids p, rows' i = rows i) : putC rows' p ps = putC rows p ps := by
  cases p <;> simp only [putC] <;> (rw [h _ (by simp [ids])])
theorem evStore_loc {P : Program} {rows rows' : Rows} {t : TypeId} {p q : PV} (h : ∀ i ∈ ids p ++ ids q, rows' i = rows i) : evStore P rows' t p q = evStore P rows t p q := by
  simp only [evStore, cellsP_loc (p := q) (fun i hi => h i (by simp [hi])), putC_loc (p := p) (fun i hi => h i (by simp [hi]))]
theorem evNil_loc {rows rows' : Rows} {p : PV} (h : ∀ i ∈ ids p, rows' i = rows i) : evNil rows' p = evNil rows p := by
  cases p <;> simp only [evNil] <;> (rw [h _ (by simp [ids])])
theorem evBinP_loc {P : Program} {op : BinOp} {rows rows' : Rows} {t : TypeId} {p q : PV} (h : ∀ i ∈ ids p ++ ids q, rows' i = rows i) : evBinP P op t rows' p q = evBinP P op t rows p q := by
  unfold evBinP
  split <;> try rfl
  rw [h _ (by simp [ids])]
theorem viewOf_loc {rows rows' : Rows} {p : PV} (h : ∀ i ∈ ids p, rows' i = rows i) : viewOf rows' p = viewOf rows p := by
  unfold viewOf
  split <;> first | rfl | (rw [h _ (by simp [ids])])
theorem bxLen_loc {P : Program} {rows rows' : Rows} {t : TypeId} {p : PV} (h : ∀ i ∈ ids p, rows' i = rows i) : bxLen P rows' t p = bxLen P rows t p := by
  cases p <;> first | rfl | (rename_i i off m; have := h i (by simp [ids]); simp only [bxLen, this]) | (rename_i i; have := h i (by simp [ids]); simp only [bxLen, this])
theorem evLen_loc {P : Program} {rows rows' : Rows} {t : TypeId} {p : PV} (h : ∀ i ∈ ids p, rows' i = rows i) : evLen P rows' t p = evLen P rows t p := by
  unfold evLen
  split <;> try rfl
  rw [viewOf_loc h, bxLen_loc h]
theorem evConv_loc {P : Program} {rows rows' : Rows} {t t' : TypeId} {p : PV} (h : ∀ i ∈ ids p, rows' i = rows i) : evConv P rows' t t' p = evConv P rows t t' p := by
  unfold evConv
  split <;> try rfl
  rw [viewOf_loc h]
theorem evConvId_loc {P : Program} {rows rows' : Rows} {t t' : TypeId} {p : PV} (h : ∀ i ∈ ids p, rows' i = rows i) : evConvId P rows' t t' p = evConvId P rows t t' p := by
  unfold evConvId
  split <;> first | rfl | (rw [h _ (by simp [ids])])
theorem evSl_loc {P : Program} {rows rows' : Rows} {t : TypeId} {p : PV} {lo hi : Option Int} (h : ∀ i ∈ ids p, rows' i = rows i) : evSl P rows' t p lo hi = evSl P rows t p lo hi := by
  unfold evSl
  split <;> first | rfl | (rw [h _ (by simp [ids])])
theorem evLook_loc {P : Program} {rows rows' : Rows} {t : TypeId} {p q : PV} {ok : Bool} (h : ∀ i ∈ ids p, rows' i = rows i) : evLook P rows' t p q ok = evLook P rows t p q ok := by
  cases p with
  | mp i => simp only [evLook, h i (by simp [ids])]
  | _ => rfl
theorem evMset_loc {P : Program} {rows rows' : Rows} {t : TypeId} {p q v : PV} (h : ∀ i ∈ ids p, rows' i = rows i) : evMset P rows' t p q v = evMset P rows t p q v := by
  cases p with
  | mp i => simp only [evMset, h i (by simp [ids])]
  | _ => rfl
theorem evMdel_loc {P : Program} {rows rows' : Rows} {t : TypeId} {p q : PV} (h : ∀ i ∈ ids p, rows' i = rows i) : evMdel P rows' t p q = evMdel P rows t p q := by
  cases p with
  | mp i => simp only [evMdel, h i (by simp [ids])]
  | _ => rfl
theorem aliveP_loc {rows rows' : Rows} {p : PV} (h : ∀ i ∈ ids p, rows' i = rows i) : aliveP rows' p = aliveP rows p := by
  cases p <;> simp only [aliveP] <;> (rw [h _ (by simp [ids])])
theorem evField_loc {P : Program} {rows rows' : Rows} {t : TypeId} {p : PV} {n : Nat} (h : ∀ i ∈ ids p, rows' i = rows i) : evField P rows' t p n = evField P rows t p n := by
  simp only [evField, aliveP_loc h]
theorem evIdx_loc {P : Program} {rows rows' : Rows} {t : TypeId} {p : PV} {n : Int} (h : ∀ i ∈ ids p, rows' i = rows i) : evIdx P rows' t p n = evIdx P rows t p n := by
  cases p with
  | own i => have := h i (by simp [ids]); simp only [evIdx, this]
  | win i off m => have := h i (by simp [ids]); simp only [evIdx, this]
  | ptr i off => have := h i (by simp [ids]); simp only [evIdx, this]
  | d x => cases x <;> rfl
  | _ => rfl
theorem srcEl_loc {P : Program} {rows rows' : Rows} {t : TypeId} {sz : Nat} {p : PV} (h : ∀ i ∈ ids p, rows' i = rows i) : srcEl P rows' t sz p = srcEl P rows t sz p := by
  unfold srcEl
  split <;> try rfl
  rw [viewOf_loc h]
theorem baseEl_loc {rows rows' : Rows} {sz : Nat} {p : PV} (h : ∀ i ∈ ids p, rows' i = rows i) : baseEl rows' sz p = baseEl rows sz p := by
  unfold baseEl
  split <;> first | rfl | (rw [h _ (by simp [ids])])
theorem srcB_loc {rows rows' : Rows} {p : PV} (h : ∀ i ∈ ids p, rows' i = rows i) : srcB rows' p = srcB rows p := by
  unfold srcB
  split <;> first | rfl | (rw [h _ (by simp [ids])])
theorem baseB_loc {rows rows' : Rows} {p : PV} (h : ∀ i ∈ ids p, rows' i = rows i) : baseB rows' p = baseB rows p := by
  unfold baseB
  split <;> first | rfl | (rw [h _ (by simp [ids])])
theorem fillP_loc {P : Program} {rows rows' : Rows} {fs : List (Nat × TypeId)} : ∀ {parts : List (Nat × PV)} {cells : List PV}, (∀ i ∈ idss (parts.map (·.2)), rows' i = rows i) → fillP P rows' fs cells parts = fillP P rows fs cells parts
  | [], _, _ => rfl
  | (i, p) :: rest, cells, h => by
    simp only [List.map_cons, idss] at h
    simp only [fillP]
    rw [cellsP_loc fun i hi => h i (by simp [hi])]
    split <;> try rfl
    split <;> try rfl
    rw [fillP_loc fun i hi => h i (by simp [hi])]

theorem bsP_loc {rows rows' : Rows} : ∀ {parts : List (Nat × PV)} {k : Nat}, (∀ i ∈ idss (parts.map (·.2)), rows' i = rows i) → bsP rows' k parts = bsP rows k parts
  | [], _, _ => rfl
  | (i, p) :: rest, k, h => by
    simp only [List.map_cons, idss] at h
    have ih := bsP_loc (rows := rows) (rows' := rows') (parts := rest) (k := k + 1) fun i hi => h i (by simp [hi])
    have hc := cellsP_loc (rows := rows) (rows' := rows') (p := p) fun i hi => h i (by simp [hi])
    simp only [bsP, ih, hc]
theorem ev_loc {regs regs' : Nat → PV} {x : Operand} (h : ∀ t, x = .tmp t → regs' t = regs t) : ev regs' x = ev regs x := by
  cases x with
  | tmp t => exact h t rfl
  | _ => rfl

/-- a builtin one: no call of a Go function -/
def isB : Op → Bool
  | .call c => (match c.callee with | .builtin .clear => false | .builtin .copy => false | .builtin _ => true | _ => false)
  | .range _ _ => false
  | .next _ _ => false
  | .typeAssert _ _ _ ok => !ok
  | .makeMap _ _ => false
  | _ => true

theorem isB_move (x : Operand) : isB (.move x) = true := rfl
theorem isB_assign (x : Operand) : isB (.assign x) = true := rfl
theorem isB_pick (a b c : Operand) : isB (.pick a b c) = true := rfl
theorem isB_alloc (t : TypeId) : isB (.alloc t) = true := rfl
theorem isB_box (t : TypeId) (x : Operand) : isB (.box t x) = true := rfl
theorem isB_build (t : TypeId) (x : Array (Nat × Operand)) : isB (.build t x) = true := rfl
theorem isB_buildSlice (t : TypeId) (n : Nat) (x : Array (Nat × Operand)) : isB (.buildSlice t n x) = true := rfl
theorem isB_load (t : TypeId) (x : Operand) : isB (.load t x) = true := rfl
theorem isB_store (t : TypeId) (x y : Operand) : isB (.store t x y) = true := rfl
theorem isB_nilCheck (x : Operand) : isB (.nilCheck x) = true := rfl
theorem isB_binOp (o : BinOp) (t u : TypeId) (x y : Operand) : isB (.binOp o t x y u) = true := rfl
theorem isB_unOp (o : UnOp) (t : TypeId) (x : Operand) : isB (.unOp o t x) = true := rfl
theorem isB_convert (t u : TypeId) (x : Operand) : isB (.convert t u x) = true := rfl
theorem isB_makeInterface (t : TypeId) (x : Operand) : isB (.makeInterface t x) = true := rfl
theorem isB_makeFunc (f : Fn) (x y : Array Operand) : isB (.makeFunc f x y) = true := rfl
theorem isB_makeSlice (t : TypeId) (x y : Operand) : isB (.makeSlice t x y) = true := rfl
theorem isB_slice (t : TypeId) (x : Operand) (a b c : Option Operand) : isB (.slice t x a b c) = true := rfl
theorem isB_fieldAddr (t : TypeId) (x : Operand) (f : Nat) : isB (.fieldAddr t x f) = true := rfl
theorem isB_indexAddr (t : TypeId) (x y : Operand) : isB (.indexAddr t x y) = true := rfl
theorem isB_index (t : TypeId) (x y : Operand) : isB (.index t x y) = true := rfl
theorem isB_extract (x : Operand) (i : Nat) : isB (.extract x i) = true := rfl
theorem isB_field (t : TypeId) (x : Operand) (f : Nat) : isB (.field t x f) = true := rfl
theorem isB_typeAssert (x : Operand) (t u : TypeId) : isB (.typeAssert x t u false) = true := rfl
theorem isB_lookup (t : TypeId) (x y : Operand) (b : Bool) : isB (.lookup t x y b) = true := rfl
theorem isB_mapUpdate (t : TypeId) (x y z : Operand) : isB (.mapUpdate t x y z) = true := rfl
theorem isB_cdelete (x : Array Operand) (y : Array TypeId) : isB (.call ⟨.builtin .delete, x, y⟩) = true := rfl
theorem isB_clen (x : Array Operand) (y : Array TypeId) : isB (.call ⟨.builtin .len, x, y⟩) = true := rfl
theorem isB_ccap (x : Array Operand) (y : Array TypeId) : isB (.call ⟨.builtin .cap, x, y⟩) = true := rfl
theorem isB_cappend (x : Array Operand) (y : Array TypeId) : isB (.call ⟨.builtin .append, x, y⟩) = true := rfl
theorem isB_cmin (x : Array Operand) (y : Array TypeId) : isB (.call ⟨.builtin .min, x, y⟩) = true := rfl
theorem isB_cmax (x : Array Operand) (y : Array TypeId) : isB (.call ⟨.builtin .max, x, y⟩) = true := rfl

theorem bdV_loc {regs regs' : Nat → PV} {x : Option Operand} (h : ∀ y, x = some y → ev regs' y = ev regs y) : bdV regs' x = bdV regs x := by
  cases x with
  | none => rfl
  | some y => simp only [bdV, h y rfl]

theorem mem_operands {o : Op} {x : Operand} {t : Nat} (hx : x ∈ o.operands.toList) (ht : x = .tmp t) : t ∈ (o.operands.toList.filterMap fun | .tmp t => some t | _ => none) := by
  subst ht
  exact List.mem_filterMap.2 ⟨_, hx, rfl⟩

theorem evOp_loc {P : Program} {o : Oper} {s s' : St} (hn : s'.nx = s.nx) (hr : ∀ x ∈ o.op.operands.toList, ev s'.regs x = ev s.regs x) (hrow : ∀ i ∈ irO s.regs o.op, s'.rows i = s.rows i) : evOp P o s' = evOp P o s := by
  unfold evOp
  cases hop : o.op <;> simp only [hop, Op.operands, irO] at hr hrow ⊢
  case move x => rw [hr x (by simp)]
  case assign x => rw [hr x (by simp)]
  case pick c x y => rw [hr x (by simp), hr y (by simp), hr c (by simp)]
  case alloc t => simp only [evAlloc, hn]
  case box t x => rw [hr x (by simp)]; simp only [evBox, hn, cellsP_loc hrow]
  case build t parts =>
    have e : (parts.toList.map fun x => (x.1, ev s'.regs x.2)) = parts.toList.map fun x => (x.1, ev s.regs x.2) := List.map_congr_left fun x hx => by
      rw [hr x.2 (by simp; exact ⟨x.1, by simpa using hx⟩)]
    rw [e]
    have e2 : ∀ fs cells, fillP P s'.rows fs cells (parts.toList.map fun x => (x.1, ev s.regs x.2)) = fillP P s.rows fs cells (parts.toList.map fun x => (x.1, ev s.regs x.2)) := fun fs cells =>
      fillP_loc (by rw [List.map_map]; exact hrow)
    simp only [evBuild, e2]
  case buildSlice t n parts =>
    have e : (parts.toList.map fun x => (x.1, ev s'.regs x.2)) = parts.toList.map fun x => (x.1, ev s.regs x.2) := List.map_congr_left fun x hx => by
      rw [hr x.2 (by simp; exact ⟨x.1, by simpa using hx⟩)]
    rw [e]
    have e2 : bsP s'.rows 0 (parts.toList.map fun x => (x.1, ev s.regs x.2)) = bsP s.rows 0 (parts.toList.map fun x => (x.1, ev s.regs x.2)) := bsP_loc (by rw [List.map_map]; exact hrow)
    simp only [evBS, hn, e2]
  case load t x => rw [hr x (by simp), evLoad_loc hrow]
  case store t x y => rw [hr x (by simp), hr y (by simp), evStore_loc hrow]
  case nilCheck x => rw [hr x (by simp), evNil_loc hrow]
  case binOp op t x y t' => rw [hr x (by simp), hr y (by simp), evBinP_loc hrow]
  case unOp op t x => rw [hr x (by simp)]
  case convert a b x => rw [hr x (by simp), evConv_loc hrow, evConvId_loc hrow]
  case makeSlice t x y => rw [hr x (by simp), hr y (by simp)]; simp only [evMake, hn]
  case makeInterface t x => rw [hr x (by simp)]
  case makeFunc fn f c =>
    have e1 : f.toList.map (ev s'.regs) = f.toList.map (ev s.regs) := List.map_congr_left fun x hx => hr x (by simp; exact .inl (by simpa using hx))
    have e2 : c.toList.map (ev s'.regs) = c.toList.map (ev s.regs) := List.map_congr_left fun x hx => hr x (by simp; exact .inr (by simpa using hx))
    rw [e1, e2]
  case slice t x lo hi mx =>
    rw [bdV_loc (x := lo) fun y hy => hr y (by subst hy; simp), bdV_loc (x := hi) fun y hy => hr y (by subst hy; simp), hr x (by simp)]
    simp only [evSl_loc hrow]
  case fieldAddr t x f => rw [hr x (by simp), evField_loc hrow]
  case indexAddr t x y => rw [hr x (by simp), hr y (by simp)]; simp only [evIdx_loc hrow]
  case index t x y => rw [hr x (by simp), hr y (by simp)]
  case extract x i => rw [hr x (by simp)]
  case field t x f => rw [hr x (by simp)]
  case typeAssert x xt t ok =>
    cases ok
    · simp only; rw [hr x (by simp)]
    · rfl
  case lookup t x y ok => rw [hr x (by simp), hr y (by simp), evLook_loc hrow]
  case mapUpdate t x y z => rw [hr x (by simp), hr y (by simp), hr z (by simp), evMset_loc hrow]
  case call c =>
    have hr' : ∀ x ∈ c.args.toList, ev s'.regs x = ev s.regs x := fun x hx => hr x (by simp only [Call.operands, Array.toList_append, List.mem_append]; exact .inr hx)
    split
    · rename_i x t h1 h2 h3
      rw [h2] at hr' hrow
      rw [hr' x (by simp), evLen_loc fun i hi => hrow i (by simp [idss, hi])]
    · rename_i x y h1 h2
      rw [h2] at hr'
      rw [hr' x (by simp), hr' y (by simp)]
    · rename_i x y h1 h2
      rw [h2] at hr'
      rw [hr' x (by simp), hr' y (by simp)]
    · rename_i x y t t' h1 h2 h3
      rw [h2] at hr' hrow
      rw [hr' x (by simp), hr' y (by simp)]
      have e1 : ∀ sz, baseEl s'.rows sz (ev s.regs x) = baseEl s.rows sz (ev s.regs x) := fun sz => baseEl_loc fun i hi => hrow i (by simp [idss, hi])
      have e2 : ∀ sz, srcEl P s'.rows t' sz (ev s.regs y) = srcEl P s.rows t' sz (ev s.regs y) := fun sz => srcEl_loc fun i hi => hrow i (by simp [idss, hi])
      have e3 : baseB s'.rows (ev s.regs x) = baseB s.rows (ev s.regs x) := baseB_loc fun i hi => hrow i (by simp [idss, hi])
      have e4 : srcB s'.rows (ev s.regs y) = srcB s.rows (ev s.regs y) := srcB_loc fun i hi => hrow i (by simp [idss, hi])
      simp only [evApp, evAppB, e1, e2, e3, e4, hn]
    · rename_i x y t t' h1 h2 h3
      rw [h2] at hr' hrow
      rw [hr' x (by simp), hr' y (by simp), evMdel_loc fun i hi => hrow i (by simp [idss, hi])]
    · rfl

/-- an effect, as its new row is number m -/
inductive EffS (s : St) (e : Nat → Eff) : Prop
  | same (h : ∀ n, e n = e 0) (h0 : (e 0).nn = 0)
  | own (ok : Prop) (u : List (Nat × Row)) (sz : Nat) (el : List (List DV)) (h : ∀ n, e n = ⟨ok, .own n, u ++ [(n, .own sz el)], 1⟩) (hu : u = [] ∨ ∃ i, u = [(i, .dead)])
  | box (ok : Prop) (ps : List PV) (h : ∀ n, e n = ⟨ok, .ptr n 0, [(n, .box ps)], 1⟩) (hps : ∀ S : Nat → Prop, (∀ x, Sc S (ev s.regs x)) → Scs S ps)
  | bsl (ok : Prop) (u : List (Nat × Row)) (ps : List PV) (h : ∀ n, e n = ⟨ok, .own n, u ++ [(n, .box ps)], 1⟩) (hu : u = [] ∨ ∃ i, u = [(i, .dead)])
      (hps : ∀ S : Nat → Prop, (∀ x, Sc S (ev s.regs x)) → (∀ j cells, s.rows j = .box cells → Scs S cells) → Scs S ps)

theorem evOp_shift {P : Program} {o : Oper} {s : St} {e : Eff} (h : evOp P o s = some e) : ∃ f : Nat → Eff, (∀ n, evOp P o { s with nx := n } = some (f n)) ∧ f s.nx = e ∧ EffS s f := by
  unfold evOp at h ⊢
  cases hop : o.op <;> simp only [hop] at h ⊢
  case alloc t =>
    simp only [evAlloc] at h ⊢
    split at h
    · rename_i ty hty
      split at h
      · rename_i z hz
        split at h
        · rename_i hoc
          simp only [Option.some.injEq] at h; subst h
          simp only [hz, hoc, if_true, Option.some.injEq]
          exact ⟨fun n => effNew (.box (z.cells.toList.map fun v => .d (.lit v))) n (.ptr n 0) True, fun n => rfl, rfl, .box _ _ (fun n => rfl) fun S _ => Scs.of_mem fun p hp => by
            obtain ⟨v, _, rfl⟩ := List.mem_map.1 hp; trivial⟩
        · cases h
      · cases h
    · cases h
  case box t x =>
    simp only [evBox] at h ⊢
    split at h
    · rename_i ps hps
      simp only [Option.some.injEq] at h; subst h
      simp only [Option.some.injEq]
      exact ⟨fun n => effNew (.box ps) n (.ptr n 0) True, fun n => rfl, rfl, .box _ _ (fun n => rfl) fun S hS => cellsP_Sc hps (hS x)⟩
    · cases h
  case buildSlice t n parts =>
    simp only [evBS] at h ⊢
    split at h
    · rename_i ty hty
      split at h
      · rename_i et hk
        split at h
        · rename_i ety he
          split at h
          · rename_i z hz
            split at h
            · rename_i hc
              split at h
              · rename_i el hel
                simp only [Option.some.injEq] at h; subst h
                simp only [hk, he, hz, hc, if_true, hel, Option.some.injEq]
                exact ⟨fun n => effNew (.own ety.size el) n (.own n) True, fun n => rfl, rfl, .own _ [] _ _ (fun n => rfl) (.inl rfl)⟩
              · rename_i hel
                split at h
                · rename_i hs1
                  split at h
                  · rename_i ps hps
                    simp only [Option.some.injEq] at h; subst h
                    simp only [hk, he, hz, hc, if_true, hel, hs1, hps, Option.some.injEq]
                    exact ⟨fun n => effNew (.box ps) n (.own n) True, fun n => rfl, rfl, .bsl _ [] _ (fun n => rfl) (.inl rfl) fun S hS _ => bsP_sc hps fun x hx => by
                      obtain ⟨y, _, rfl⟩ := List.mem_map.1 hx
                      exact hS y.2⟩
                  · cases h
                · cases h
            · cases h
          · cases h
        · cases h
      · cases h
    · cases h
  case makeSlice t x y =>
    simp only [evMake] at h ⊢
    split at h
    · rename_i k1 l hx
      split at h
      · rename_i k2 c hy
        split at h
        · rename_i ty hty
          split at h
          · rename_i et hk
            split at h
            · rename_i ety he
              split at h
              · rename_i z hz
                split at h
                · rename_i r hmr
                  simp only [Option.some.injEq] at h; subst h
                  simp only [hx, hy, hty, hk, he, hz, hmr, Option.some.injEq]
                  refine ⟨fun n => effNew r n (.own n) (0 ≤ l ∧ l ≤ c ∧ c ≤ 9223372036854775807 ∧ (ety.bytes : Int) * c ≤ 281474976710656), fun n => by simp, rfl, ?_⟩
                  rcases makeRow_cases hmr with ⟨rfl, _, rfl⟩ | ⟨_, _, rfl⟩
                  · exact .bsl _ [] _ (fun n => rfl) (.inl rfl) fun S _ _ => Scs.of_mem fun p hp => by rw [(List.mem_replicate.1 hp).2]; trivial
                  · exact .own _ [] _ _ (fun n => rfl) (.inl rfl)
                · cases h
              · cases h
            · cases h
          · cases h
        · cases h
      · cases h
    · cases h
  case call c =>
    split at h
    · simp only [Option.map_eq_some_iff] at h
      obtain ⟨q, h1, rfl⟩ := h
      exact ⟨fun _ => _, fun _ => by rw [h1]; rfl, rfl, .same (fun _ => rfl) rfl⟩
    · split at h
      · simp only [Option.some.injEq] at h; subst h
        rename_i hx hy
        exact ⟨fun _ => _, fun _ => rfl, rfl, .same (fun _ => rfl) rfl⟩
      · cases h
    · split at h
      · simp only [Option.some.injEq] at h; subst h
        rename_i hx hy
        exact ⟨fun _ => _, fun _ => rfl, rfl, .same (fun _ => rfl) rfl⟩
      · cases h
    · rename_i x y t t' h1 h2 h3
      simp only [evApp] at h ⊢
      split at h
      · rename_i ty hty
        split at h
        · rename_i et hk
          split at h
          · rename_i ety he
            split at h
            · rename_i z hz
              split at h
              · rename_i hc
                split at h
                · rename_i i el0 el1 hb hs
                  simp only [Option.some.injEq] at h; subst h
                  simp only [hk, he, hz, hc, if_true, hb, hs, Option.some.injEq]
                  refine ⟨fun n => effApp n ety.size ety.bytes i el0 el1, fun n => rfl, rfl, ?_⟩
                  cases i with
                  | none => exact .own _ [] _ _ (fun n => rfl) (.inl rfl)
                  | some i => exact .own _ [(i, .dead)] _ _ (fun n => rfl) (.inr ⟨i, rfl⟩)
                · rename_i hnn
                  split at h
                  · rename_i ht'
                    simp only [evAppB] at h ⊢
                    split at h
                    · rename_i hs1
                      split at h
                      · rename_i i c0 c1 hb hs
                        simp only [Option.some.injEq] at h; subst h
                        simp only [hk, he, hz, hc, if_true, hb, hs]
                        refine ⟨fun n => effAppB n ety.bytes i c0 c1, fun n => by rw [if_pos ht', if_pos hs1], rfl, ?_⟩
                        have hps : ∀ S : Nat → Prop, (∀ x, Sc S (ev s.regs x)) → (∀ j cells, s.rows j = .box cells → Scs S cells) → Scs S (c0 ++ c1) := fun S _ hS => by
                          refine Scs.append ?_ ?_
                          · unfold baseB at hb
                            split at hb
                            · simp only [Option.some.injEq, Prod.mk.injEq] at hb; obtain ⟨_, rfl⟩ := hb; trivial
                            · split at hb
                              · rename_i hrk; simp only [Option.some.injEq, Prod.mk.injEq] at hb; obtain ⟨_, rfl⟩ := hb; exact hS _ _ hrk
                              · cases hb
                            · cases hb
                          · unfold srcB at hs
                            split at hs
                            · split at hs
                              · rename_i hrk; simp only [Option.some.injEq] at hs; subst hs; exact hS _ _ hrk
                              · cases hs
                            · cases hs
                        cases i with
                        | none => exact .bsl _ [] _ (fun n => rfl) (.inl rfl) hps
                        | some i => exact .bsl _ [(i, .dead)] _ (fun n => rfl) (.inr ⟨i, rfl⟩) hps
                      · cases h
                    · cases h
                  · cases h
              · cases h
            · cases h
          · cases h
        · cases h
      · cases h
    · simp only [Option.map_eq_some_iff] at h
      obtain ⟨q, h1, rfl⟩ := h
      exact ⟨fun _ => _, fun _ => by rw [h1]; rfl, rfl, .same (fun _ => rfl) rfl⟩
    · cases h
  case typeAssert x xt t ok =>
    cases ok with
    | true => cases h
    | false => exact ⟨fun _ => e, fun _ => h, rfl, .same (fun _ => rfl) (by
        simp only [Option.map_eq_some_iff] at h
        obtain ⟨_, _, rfl⟩ := h
        rfl)⟩
  all_goals exact ⟨fun _ => e, fun _ => h, rfl, .same (fun _ => rfl) (by
    first
    | (simp only [Option.some.injEq] at h; subst h; rfl)
    | (simp only [Option.map_eq_some_iff] at h; obtain ⟨_, _, rfl⟩ := h; rfl)
    | (repeat' split at h) <;> first | (cases h; rfl) | (cases h; done) | (simp only [Option.some.injEq] at h; subst h; rfl) | (simp only [Option.map_eq_some_iff] at h; obtain ⟨_, _, rfl⟩ := h; rfl))⟩
end Go.AM

namespace Go.AM
open Go

/-! ## numbers that change places -/
def swp (m n k i : Nat) : Nat := if m ≤ i ∧ i < m + k then n + (i - m) else if n ≤ i ∧ i < n + k then m + (i - n) else i

theorem swp_inj {m n k : Nat} (h : m + k ≤ n) {i j : Nat} (e : swp m n k i = swp m n k j) : i = j := by
  unfold swp at e
  repeat' split at e
  all_goals omega

mutual
theorem ren_id {σ : Nat → Nat} : ∀ p, Sc (fun i => σ i = i) p → ren σ p = p
  | .d _, _ => rfl
  | .own i, h => by simp only [ren]; rw [show σ i = i from h]
  | .win i _ _, h => by simp only [ren]; rw [show σ i = i from h]
  | .ptr i _, h => by simp only [ren]; rw [show σ i = i from h]
  | .mp i, h => by simp only [ren]; rw [show σ i = i from h]
  | .eptr i _ _, h => by simp only [ren]; rw [show σ i = i from h]
  | .iptr _, _ => rfl
  | .clo _ f c, h => by simp only [ren]; rw [rens_id f h.1, rens_id c h.2]
  | .ifc _ x, h => by simp only [ren]; rw [ren_id x h]
  | .agg ps, h => by simp only [ren]; rw [rens_id ps h]
  | .tup ps, h => by simp only [ren]; rw [rens_id ps h]
  | .any, _ => rfl
theorem rens_id {σ : Nat → Nat} : ∀ ps, Scs (fun i => σ i = i) ps → rens σ ps = ps
  | [], _ => rfl
  | p :: ps, h => by simp only [rens]; rw [ren_id p h.1, rens_id ps h.2]
end

mutual
theorem ren_comp {σ τ ρ : Nat → Nat} : ∀ p, Sc (fun i => σ (τ i) = ρ i) p → ren σ (ren τ p) = ren ρ p
  | .d _, _ => rfl
  | .own i, h => by simp only [ren]; rw [show σ (τ i) = ρ i from h]
  | .win i _ _, h => by simp only [ren]; rw [show σ (τ i) = ρ i from h]
  | .ptr i _, h => by simp only [ren]; rw [show σ (τ i) = ρ i from h]
  | .mp i, h => by simp only [ren]; rw [show σ (τ i) = ρ i from h]
  | .eptr i _ _, h => by simp only [ren]; rw [show σ (τ i) = ρ i from h]
  | .iptr _, _ => rfl
  | .clo _ f c, h => by simp only [ren]; rw [rens_comp f h.1, rens_comp c h.2]
  | .ifc _ x, h => by simp only [ren]; rw [ren_comp x h]
  | .agg ps, h => by simp only [ren]; rw [rens_comp ps h]
  | .tup ps, h => by simp only [ren]; rw [rens_comp ps h]
  | .any, _ => rfl
theorem rens_comp {σ τ ρ : Nat → Nat} : ∀ ps, Scs (fun i => σ (τ i) = ρ i) ps → rens σ (rens τ ps) = rens ρ ps
  | [], _ => rfl
  | p :: ps, h => by simp only [rens]; rw [ren_comp p h.1, rens_comp ps h.2]
end

mutual
theorem Sc_and {S T : Nat → Prop} : ∀ p, Sc S p → Sc T p → Sc (fun i => S i ∧ T i) p
  | .d _, _, _ => trivial
  | .own _, h, k => ⟨h, k⟩
  | .win _ _ _, h, k => ⟨h, k⟩
  | .ptr _ _, h, k => ⟨h, k⟩
  | .mp _, h, k => ⟨h, k⟩
  | .eptr _ _ _, h, k => ⟨h, k⟩
  | .iptr _, _, _ => trivial
  | .clo _ f c, h, k => ⟨Scs_and f h.1 k.1, Scs_and c h.2 k.2⟩
  | .ifc _ x, h, k => Sc_and x h k
  | .agg ps, h, k => Scs_and ps h k
  | .tup ps, h, k => Scs_and ps h k
  | .any, _, _ => trivial
theorem Scs_and {S T : Nat → Prop} : ∀ ps, Scs S ps → Scs T ps → Scs (fun i => S i ∧ T i) ps
  | [], _, _ => trivial
  | p :: ps, h, k => ⟨Sc_and p h.1 k.1, Scs_and ps h.2 k.2⟩
end

theorem rowSc_and {S T : Nat → Prop} : ∀ r, rowSc S r → rowSc T r → rowSc (fun i => S i ∧ T i) r
  | .box cells, h, k => Scs_and cells h k
  | .map _ _ _, h, k => fun e he => Sc_and _ (h e he) (k e he)
  | .itm _ _ _ _, h, k => ⟨h, k⟩
  | .dead, _, _ => trivial
  | .own _ _, _, _ => trivial
  | .iter _ _, _, _ => trivial
theorem renRow_id {σ : Nat → Nat} : ∀ r, rowSc (fun i => σ i = i) r → AM.renRow σ r = r
  | .box cells, h => by simp only [AM.renRow, Row.box.injEq]; exact rens_id _ h
  | .map kd c ents, h => by
    simp only [AM.renRow, Row.map.injEq, true_and]
    refine (List.map_congr_left fun e he => ?_).trans (List.map_id _)
    show (e.1, e.2.1, ren σ e.2.2) = e
    rw [ren_id _ (h e he)]
  | .itm src _ _ _, h => by simp only [AM.renRow]; rw [show σ src = src from h]
  | .dead, _ => rfl
  | .own _ _, _ => rfl
  | .iter _ _, _ => rfl
theorem renRow_comp {σ τ ρ : Nat → Nat} : ∀ r, rowSc (fun i => σ (τ i) = ρ i) r → AM.renRow σ (AM.renRow τ r) = AM.renRow ρ r
  | .box cells, h => by simp only [AM.renRow, Row.box.injEq]; exact rens_comp _ h
  | .map kd c ents, h => by
    simp only [AM.renRow, Row.map.injEq, true_and, List.map_map]
    refine List.map_congr_left fun e he => ?_
    show (e.1, e.2.1, ren σ (ren τ e.2.2)) = (e.1, e.2.1, ren ρ e.2.2)
    rw [ren_comp _ (h e he)]
  | .itm src _ _ _, h => by simp only [AM.renRow]; rw [show σ (τ src) = ρ src from h]
  | .dead, _ => rfl
  | .own _ _, _ => rfl
  | .iter _ _, _ => rfl

theorem SRel.perm {B : Base} {β : Nat → Loc} {X : Nat → Prop} {w : World} {a : Act} {s' s2 : St} (h : SRel B β X w a s') {σ : Nat → Nat} (hN : s2.N = s'.N) (hkl : s2.kl = s'.kl)
    (hrow : ∀ i, s'.rows (σ i) = renRow σ (s2.rows i)) (hreg : ∀ t, s'.regs t = ren σ (s2.regs t)) (hinj : ∀ i j, σ i = σ j → i = j) (hd : ∀ i, s2.nx ≤ i → s2.rows i = .dead)
    (hsr : ∀ i, rowSc (· < s2.nx) (s2.rows i)) (hs : ∀ t, Sc (· < s2.nx) (s2.regs t)) (hk : s'.kl ≤ s2.nx) (hk2 : ∀ i, i < s'.kl → σ i = i) : Sat B s2 a w := by
  have hr : ∀ i, RowIs σ (s'.rows (σ i)) (s2.rows i) := fun i => .inr (hrow i)
  refine ⟨fun i => β (σ i), X, h.mem.rename hr (fun i j _ _ e => hinj i j e) hd hsr (by rw [← h.kl]; exact hk) (fun i hi _ => hk2 i (by rw [h.kl]; exact hi)), h.defers, by rw [h.size, hN], by rw [hkl, h.kl], fun t => ?_, hs⟩
  have := h.rg t
  rw [hreg t] at this
  exact repP_unren hr _ _ this

def St.app (s : St) (d : Option Nat) (p : PV) (u : List (Nat × Row)) : St := ({ s with rows := updRows s.rows u }).put d p

structure Fresh (s : St) (m : Nat) : Prop where
  le : m + 64 ≤ s.nx
  kl : s.kl ≤ m
  dead : ∀ i, m ≤ i → i < m + 64 → s.rows i = .dead
  reg : ∀ i, m ≤ i → i < m + 64 → ∀ t, Sc (· ≠ i) (s.regs t)
  row : ∀ i, m ≤ i → i < m + 64 → ∀ j, rowSc (· ≠ i) (s.rows j)

mutual
theorem Sc_all {T : Nat → Nat → Prop} : ∀ p, (∀ n, Sc (T n) p) → Sc (fun i => ∀ n, T n i) p
  | .d _, _ => trivial
  | .own _, h => h
  | .win _ _ _, h => h
  | .ptr _ _, h => h
  | .mp _, h => h
  | .eptr _ _ _, h => h
  | .iptr _, _ => trivial
  | .clo _ f c, h => ⟨Scs_all f fun n => (h n).1, Scs_all c fun n => (h n).2⟩
  | .ifc _ x, h => Sc_all x h
  | .agg ps, h => Scs_all ps h
  | .tup ps, h => Scs_all ps h
  | .any, _ => trivial
theorem Scs_all {T : Nat → Nat → Prop} : ∀ ps, (∀ n, Scs (T n) ps) → Scs (fun i => ∀ n, T n i) ps
  | [], _ => trivial
  | p :: ps, h => ⟨Sc_all p fun n => (h n).1, Scs_all ps fun n => (h n).2⟩
end

theorem Sc_fix {s : St} {m k : Nat} (hk : k ≤ 64) {p : PV} (h1 : ∀ i, m ≤ i → i < m + 64 → Sc (· ≠ i) p) (h2 : Sc (· < s.nx) p) : Sc (fun i => swp m s.nx k i = i) p := by
  have h3 : Sc (fun i => ∀ n, (m ≤ n ∧ n < m + 64) → i ≠ n) p := Sc_all p fun n => by
    by_cases hn : m ≤ n ∧ n < m + 64
    · exact Sc.mono (fun i hi _ => hi) p (h1 n hn.1 hn.2)
    · exact Sc.mono (fun i _ h => absurd h hn) p h2
  refine Sc.mono (fun i hi => ?_) p (Sc_and p h3 h2)
  unfold swp
  have := hi.1 i
  rw [if_neg (fun h => this ⟨h.1, by omega⟩ rfl), if_neg (by omega)]

theorem Scs_fix {s : St} {m k : Nat} (hk : k ≤ 64) {p : List PV} (h1 : ∀ i, m ≤ i → i < m + 64 → Scs (· ≠ i) p) (h2 : Scs (· < s.nx) p) : Scs (fun i => swp m s.nx k i = i) p := by
  have := Sc_fix (p := .agg p) hk h1 h2
  exact this

theorem rowSc_all {T : Nat → Nat → Prop} : ∀ r, (∀ n, rowSc (T n) r) → rowSc (fun i => ∀ n, T n i) r
  | .box cells, h => Scs_all cells h
  | .map _ _ _, h => fun e he => Sc_all _ fun n => h n e he
  | .itm _ _ _ _, h => h
  | .dead, _ => trivial
  | .own _ _, _ => trivial
  | .iter _ _, _ => trivial
theorem rowSc_fix {s : St} {m k : Nat} (hk : k ≤ 64) {r : Row} (h1 : ∀ i, m ≤ i → i < m + 64 → rowSc (· ≠ i) r) (h2 : rowSc (· < s.nx) r) : rowSc (fun i => swp m s.nx k i = i) r := by
  have h3 : rowSc (fun i => ∀ n, (m ≤ n ∧ n < m + 64) → i ≠ n) r := rowSc_all r fun n => by
    by_cases hn : m ≤ n ∧ n < m + 64
    · exact rowSc.mono (fun i hi _ => hi) r (h1 n hn.1 hn.2)
    · exact rowSc.mono (fun i _ h => absurd h hn) r h2
  refine rowSc.mono (fun i hi => ?_) r (rowSc_and r h3 h2)
  unfold swp
  have := hi.1 i
  rw [if_neg (fun h => this ⟨h.1, by omega⟩ rfl), if_neg (by omega)]

theorem Fresh.renRow {B : Base} {β : Nat → Loc} {X : Nat → Prop} {w : World} {a : Act} {s : St} {m k : Nat} (hf : Fresh s m) (hr : SRel B β X w a s) (hk : k ≤ 64) (i : Nat) : renRow (swp m s.nx k) (s.rows i) = s.rows i :=
  renRow_id _ (rowSc_fix hk (fun j h1 h2 => hf.row j h1 h2 i) (hr.mem.sr i))

theorem swap_sat {B : Base} {β β0 : Nat → Loc} {X X0 : Nat → Prop} {w w0 : World} {a : Act} {s : St} {m k : Nat} (hf : Fresh s m) (hk : k ≤ 64) (h0 : SRel B β0 X0 w0 a s) {p p' : PV} {u u' : List (Nat × Row)} {d : Option Nat} {a' : Act}
    (h : SRel B β X w a' (({ s with rows := updRows s.rows u', nx := s.nx + k } : St).put d p')) (hp : p' = ren (swp m s.nx k) p) (hsp : Sc (· < s.nx) p)
    (hrow : ∀ i, updRows s.rows u' (swp m s.nx k i) = renRow (swp m s.nx k) (updRows s.rows u i)) (hd : ∀ i, s.nx ≤ i → updRows s.rows u i = .dead)
    (hsc : ∀ i, rowSc (· < s.nx) (updRows s.rows u i)) : Sat B (s.app d p u) a' w := by
  have hle := hf.le
  have hkl := hf.kl
  have hpr : ∀ (s : St) (d : Option Nat) (p : PV), (s.put d p).rows = s.rows ∧ (s.put d p).nx = s.nx ∧ (s.put d p).N = s.N ∧ (s.put d p).kl = s.kl := fun s d p => by cases d <;> exact ⟨rfl, rfl, rfl, rfl⟩
  refine h.perm (s2 := s.app d p u) (σ := swp m s.nx k) (by simp [St.app, hpr]) (by simp [St.app, hpr]) ?_ ?_ (fun i j e => swp_inj (by omega) e) ?_ ?_ ?_ (by simp [St.app, hpr]; omega) ?_
  · intro i; simp only [St.app, hpr]; exact hrow i
  · intro t
    have hold : s.regs t = ren (swp m s.nx k) (s.regs t) := (ren_id _ (Sc_fix hk (fun i h1 h2 => hf.reg i h1 h2 t) (h0.sc t))).symm
    cases d with
    | none => exact hold
    | some d =>
      simp only [St.app, St.put]
      by_cases ht : t = d
      · subst ht; rw [upd_same, upd_same]; exact hp
      · rw [upd_ne _ _ ht, upd_ne _ _ ht]; exact hold
  · intro i hi; simp only [St.app, hpr] at hi ⊢; exact hd i hi
  · intro i; simp only [St.app, hpr]; exact hsc i
  · intro t
    cases d with
    | none => exact h0.sc t
    | some d =>
      simp only [St.app, St.put]
      by_cases ht : t = d
      · subst ht; rw [upd_same]; exact hsp
      · rw [upd_ne _ _ ht]; exact h0.sc t
  · intro i hi
    simp only [hpr] at hi
    unfold swp
    rw [if_neg (by omega), if_neg (by omega)]

/-- an operation, made in any order: the effect p, u, its new rows from m on -/
def Does (P : Program) (o : Oper) (p : PV) (u : List (Nat × Row)) (s : St) (m : Nat) : Prop :=
  ∀ B β X w a, SRel B β X w a s → Fresh s m → ∀ (K : Act → World → Prop) Q, (∀ a' w', Sat B (s.app o.dst p u) a' w' → K a' w') → o.wp P a w K Q

theorem updRows_one {rows : Rows} {n : Nat} {r : Row} {u : List (Nat × Row)} (i : Nat) : updRows rows (u ++ [(n, r)]) i = if i = n then r else updRows rows u i := by
  induction u generalizing rows with
  | nil => simp [updRows, upd]
  | cons x u ih => obtain ⟨j, q⟩ := x; simp only [List.cons_append, updRows]; exact ih

theorem does_b {P : Program} {o : Oper} {s : St} {m : Nat} {e : Eff} (he : evOp P o { s with nx := m } = some e) (hok : e.ok) (hd : ∀ d, o.dst = some d → d < s.N) : Does P o e.val e.upds s m := by
  intro B β X w a hr hf K Q hK
  obtain ⟨f, f1, f2, f3⟩ := evOp_shift he
  have he' : evOp P o s = some (f s.nx) := f1 s.nx
  have hle := hf.le
  have hok' : (f s.nx).ok := by
    have e1 : e = f m := f2.symm
    rw [e1] at hok
    cases f3 with
    | same h h0 => rw [h s.nx]; rw [h m] at hok; exact hok
    | own ok u sz el h hu => rw [h]; rw [h] at hok; exact hok
    | box ok ps h hps => rw [h]; rw [h] at hok; exact hok
    | bsl ok u ps h hu hps => rw [h]; rw [h] at hok; exact hok
  obtain ⟨v, w', β', X', h1, h2, h3, h4⟩ := evOp_sound he' B β X w a hr hok'
  have hput := h2.put (d := o.dst) h3 h4 (fun d hd' => hd d hd')
  have key : Sat B (s.app o.dst e.val e.upds) (a.put o.dst v) w' := by
    have e1 : e = f m := f2.symm
    subst e1
    cases f3 with
    | same h h0 =>
      have e2 : f s.nx = f m := by rw [h s.nx, h m]
      have e3 : (f m).nn = 0 := by rw [h m]; exact h0
      rw [e2] at hput
      refine ⟨β', X', ?_⟩
      have e4 : (s.after (f m)).put o.dst (f m).val = s.app o.dst (f m).val (f m).upds := by
        simp only [St.after, St.app, e3, Nat.add_zero]
      rw [← e4]; exact hput
    | own ok u sz el h hu =>
      rw [h] at hput
      rw [h]
      have hu1 : ∀ i, updRows s.rows u i = .dead ∨ updRows s.rows u i = s.rows i := fun i => by
        rcases hu with rfl | ⟨j, rfl⟩
        · exact .inr rfl
        · simp only [updRows, upd]; split <;> simp
      refine swap_sat (k := 1) hf (by omega) hr hput (by simp only [ren, swp]; rw [if_pos (by omega)]; simp) (by show m < s.nx; omega) (fun i => ?_) (fun i hi => ?_) (fun i => ?_)
      · rw [updRows_one, updRows_one]
        by_cases hi : i = m
        · subst hi
          have : swp i s.nx 1 i = s.nx := by unfold swp; rw [if_pos (by omega)]; omega
          rw [this]; simp [AM.renRow]
        · rw [if_neg hi]
          have hne : swp m s.nx 1 i ≠ s.nx := fun e => hi (swp_inj (m := m) (n := s.nx) (k := 1) (by omega) (e.trans (by unfold swp; rw [if_pos (by omega)]; omega)))
          rw [if_neg hne]
          by_cases hin : i = s.nx
          · subst hin
            have e5 : swp m s.nx 1 s.nx = m := by unfold swp; rw [if_neg (by omega), if_pos (by omega)]; omega
            rw [e5]
            have d1 : updRows s.rows u m = .dead := by rcases hu1 m with h | h; · exact h
                                                       · rw [h]; exact hf.dead m (by omega) (by omega)
            have d2 : updRows s.rows u s.nx = .dead := by rcases hu1 s.nx with h | h; · exact h
                                                          · rw [h]; exact hr.mem.dead _ (Nat.le_refl _)
            rw [d1, d2]; rfl
          · have e5 : swp m s.nx 1 i = i := by unfold swp; rw [if_neg (by omega), if_neg (by omega)]
            rw [e5]
            rcases hu1 i with h | h
            · rw [h]; rfl
            · rw [h, hf.renRow hr (by omega) i]
      · rw [updRows_one, if_neg (by omega)]
        rcases hu1 i with h | h
        · exact h
        · rw [h]; exact hr.mem.dead i hi
      · rw [updRows_one]
        split
        · trivial
        · rcases hu1 i with h | h
          · rw [h]; trivial
          · rw [h]; exact hr.mem.sr i
    | box ok ps h hps =>
      rw [h] at hput
      rw [h]
      have hsp : Scs (· < s.nx) ps := hps _ fun x => (hr.ev x).2
      have hnm : Scs (fun i => swp m s.nx 1 i = i) ps := Scs_fix (by omega) (fun i h1 h2 => hps _ fun x => by
        cases x with
        | tmp t => exact hf.reg i h1 h2 t
        | const v => exact Sc_ofVal _ _
        | global g => trivial
        | func g => exact ⟨trivial, trivial⟩) hsp
      refine swap_sat (k := 1) hf (by omega) hr hput (by simp only [ren, swp]; rw [if_pos (by omega)]; simp) (by show m < s.nx; omega) (fun i => ?_) (fun i hi => ?_) (fun i => ?_)
      · simp only [updRows]
        by_cases hi : i = m
        · subst hi
          have : swp i s.nx 1 i = s.nx := by unfold swp; rw [if_pos (by omega)]; omega
          rw [this, upd_same, upd_same]
          simp only [AM.renRow, rens_id _ hnm]
        · rw [upd_ne _ _ hi]
          have hne : swp m s.nx 1 i ≠ s.nx := fun e => hi (swp_inj (m := m) (n := s.nx) (k := 1) (by omega) (e.trans (by unfold swp; rw [if_pos (by omega)]; omega)))
          rw [upd_ne _ _ hne]
          by_cases hin : i = s.nx
          · subst hin
            have e5 : swp m s.nx 1 s.nx = m := by unfold swp; rw [if_neg (by omega), if_pos (by omega)]; omega
            rw [e5, hf.dead m (by omega) (by omega), hr.mem.dead _ (Nat.le_refl _)]; rfl
          · have e5 : swp m s.nx 1 i = i := by unfold swp; rw [if_neg (by omega), if_neg (by omega)]
            rw [e5, hf.renRow hr (by omega) i]
      · simp only [updRows]; rw [upd_ne _ _ (by omega)]; exact hr.mem.dead i hi
      · simp only [updRows]
        by_cases hin : i = m
        · subst hin; rw [upd_same]; exact hsp
        · rw [upd_ne _ _ hin]; exact hr.mem.sr i
    | bsl ok u ps h hu hps =>
      rw [h] at hput
      rw [h]
      have hu1 : ∀ i, updRows s.rows u i = .dead ∨ updRows s.rows u i = s.rows i := fun i => by
        rcases hu with rfl | ⟨j, rfl⟩
        · exact .inr rfl
        · simp only [updRows, upd]; split <;> simp
      have hsp : Scs (· < s.nx) ps := hps _ (fun x => (hr.ev x).2) fun j cells hj => hr.mem.scr j cells hj
      have hnm : Scs (fun i => swp m s.nx 1 i = i) ps := Scs_fix (by omega) (fun i h1 h2 => hps _ (fun x => by
        cases x with
        | tmp t => exact hf.reg i h1 h2 t
        | const v => exact Sc_ofVal _ _
        | global g => trivial
        | func g => exact ⟨trivial, trivial⟩) fun j cells hj => by have := hf.row i h1 h2 j; rw [hj] at this; exact this) hsp
      refine swap_sat (k := 1) hf (by omega) hr hput (by simp only [ren, swp]; rw [if_pos (by omega)]; simp) (by show m < s.nx; omega) (fun i => ?_) (fun i hi => ?_) (fun i => ?_)
      · rw [updRows_one, updRows_one]
        by_cases hi : i = m
        · subst hi
          have : swp i s.nx 1 i = s.nx := by unfold swp; rw [if_pos (by omega)]; omega
          rw [this]; simp only [if_true, AM.renRow, rens_id _ hnm]
        · rw [if_neg hi]
          have hne : swp m s.nx 1 i ≠ s.nx := fun e => hi (swp_inj (m := m) (n := s.nx) (k := 1) (by omega) (e.trans (by unfold swp; rw [if_pos (by omega)]; omega)))
          rw [if_neg hne]
          by_cases hin : i = s.nx
          · subst hin
            have e5 : swp m s.nx 1 s.nx = m := by unfold swp; rw [if_neg (by omega), if_pos (by omega)]; omega
            rw [e5]
            have d1 : updRows s.rows u m = .dead := by rcases hu1 m with h | h; · exact h
                                                       · rw [h]; exact hf.dead m (by omega) (by omega)
            have d2 : updRows s.rows u s.nx = .dead := by rcases hu1 s.nx with h | h; · exact h
                                                          · rw [h]; exact hr.mem.dead _ (Nat.le_refl _)
            rw [d1, d2]; rfl
          · have e5 : swp m s.nx 1 i = i := by unfold swp; rw [if_neg (by omega), if_neg (by omega)]
            rw [e5]
            rcases hu1 i with h | h
            · rw [h]; rfl
            · rw [h, hf.renRow hr (by omega) i]
      · rw [updRows_one, if_neg (by omega)]
        rcases hu1 i with h | h
        · exact h
        · rw [h]; exact hr.mem.dead i hi
      · rw [updRows_one]
        split
        · exact hsp
        · rcases hu1 i with h | h
          · rw [h]; trivial
          · rw [h]; exact hr.mem.sr i
  unfold Oper.wp
  rcases h1 with h1 | ⟨h1, rfl⟩ <;> (rw [h1]; exact hK _ _ key)

/-- a call of a function by its contract, its new rows from m on -/
structure CallD (P : Program) (f : FuncId) (ps' : List PV) (rows : Rows) (nx m : Nat) (ps : List PV) (lent : List Row) (r : PV) (out : List Row) (ι T : List Nat) : Prop where
  fn : isFn P f = true
  af : AFun P f ps lent r out
  hι : ι.length = lent.length
  hout : lent.length ≤ out.length
  hk : out.length - lent.length ≤ 64
  hnd : ι.Nodup
  hlt : ∀ i ∈ ι, i < nx
  args : argsOk rows T (sig ι m) ps' ps
  le : lentOk rows T (sig ι m) 0 lent
  hT : T = [] ∨ (nvP r ∧ ∀ row ∈ out, nvRow row)
  hr : scB out.length r = true
  ho : out.all (scRow out.length) = true
  hl : lent.all (scRow lent.length) = true
  hp : scBs lent.length ps = true

mutual
theorem ren_cong {σ τ : Nat → Nat} : ∀ p, Sc (fun i => σ i = τ i) p → ren σ p = ren τ p
  | .d _, _ => rfl
  | .own i, h => by simp only [ren]; rw [show σ i = τ i from h]
  | .win i _ _, h => by simp only [ren]; rw [show σ i = τ i from h]
  | .ptr i _, h => by simp only [ren]; rw [show σ i = τ i from h]
  | .mp i, h => by simp only [ren]; rw [show σ i = τ i from h]
  | .eptr i _ _, h => by simp only [ren]; rw [show σ i = τ i from h]
  | .iptr _, _ => rfl
  | .clo _ f c, h => by simp only [ren]; rw [rens_cong f h.1, rens_cong c h.2]
  | .ifc _ x, h => by simp only [ren]; rw [ren_cong x h]
  | .agg ps, h => by simp only [ren]; rw [rens_cong ps h]
  | .tup ps, h => by simp only [ren]; rw [rens_cong ps h]
  | .any, _ => rfl
theorem rens_cong {σ τ : Nat → Nat} : ∀ ps, Scs (fun i => σ i = τ i) ps → rens σ ps = rens τ ps
  | [], _ => rfl
  | p :: ps, h => by simp only [rens]; rw [ren_cong p h.1, rens_cong ps h.2]
end

theorem sig_lt {ι : List Nat} {m n j : Nat} (h : j < ι.length) : sig ι m j = sig ι n j := by unfold sig; rw [if_pos h, if_pos h]

theorem argsOk_base {rows : Rows} {T ι : List Nat} {m n : Nat} : ∀ {ps' ps : List PV}, argsOk rows T (sig ι m) ps' ps → scBs ι.length ps = true → argsOk rows T (sig ι n) ps' ps
  | [], [], _, _ => trivial
  | p' :: ps', p :: ps, h, hs => by
    simp only [scBs, Bool.and_eq_true] at hs
    refine ⟨?_, argsOk_base h.2 hs.2⟩
    rcases h.1 with h1 | h1
    · exact .inl (h1.trans (ren_cong p (Sc.mono (fun i hi => sig_lt hi) p (scB_ok p hs.1))))
    · exact .inr h1
  | [], _ :: _, h, _ => h.elim
  | _ :: _, [], h, _ => h.elim

theorem renRow_cong {σ τ : Nat → Nat} {r : Row} {n : Nat} (h : scRow n r = true) (he : ∀ i, i < n → σ i = τ i) : renRow σ r = renRow τ r := by
  have hs := rowSc.mono (fun i hi => he i hi) r (scRow_ok h)
  cases r with
  | box cells => simp only [AM.renRow, Row.box.injEq]; exact rens_cong _ hs
  | map kd c ents =>
    simp only [AM.renRow, Row.map.injEq, true_and]
    refine List.map_congr_left fun e he' => ?_
    show (e.1, e.2.1, ren σ e.2.2) = (e.1, e.2.1, ren τ e.2.2)
    rw [ren_cong _ (hs e he')]
  | itm src since seen last => simp only [AM.renRow]; rw [show σ src = τ src from hs]
  | _ => rfl

theorem lentOk_base {rows : Rows} {T ι : List Nat} {m n : Nat} : ∀ {k : Nat} {rs : List Row}, lentOk rows T (sig ι m) k rs → k + rs.length ≤ ι.length → rs.all (scRow ι.length) = true → lentOk rows T (sig ι n) k rs
  | _, [], _, _, _ => trivial
  | k, r :: rs, h, hk, hs => by
    simp only [List.all_cons, Bool.and_eq_true] at hs
    simp only [List.length_cons] at hk
    unfold lentOk at h ⊢
    have e : sig ι n k = sig ι m k := sig_lt (by omega)
    rw [e, renRow_cong (τ := sig ι m) hs.1 fun i hi => sig_lt hi]
    exact ⟨h.1, h.2.1, h.2.2.1, lentOk_base h.2.2.2 (by omega) hs.2⟩

set_option maxHeartbeats 400000 in
theorem does_call {P : Program} {o : Oper} {c : Call} (ho : o.op = .call c) {s : St} {m : Nat} {f : FuncId} {ps' : List PV} (hc : calleeOf s c = some (f, ps')) {ps : List PV} {lent : List Row} {r : PV} {out : List Row} {ι T : List Nat}
    (h : CallD P f ps' s.rows s.nx m ps lent r out ι T) (hd : ∀ d, o.dst = some d → d < s.N) : Does P o (ren (sig ι m) r) (plc (sig ι m) 0 out) s m := by
  intro B β X w a hr hf K Q hK
  have hle := hf.le
  have hk64 := h.hk
  have hlens : lent.length = ι.length := h.hι.symm
  generalize hkk : out.length - lent.length = k at hk64
  -- the places that are lent are none of the new ones
  have hlive : ∀ j, j < ι.length → ¬ (m ≤ sig ι m j ∧ sig ι m j < m + 64) ∧ sig ι m j < s.nx := fun j hj => by
    obtain ⟨g1, g2, _⟩ := lentOk_get h.le j lent[j] (List.getElem?_eq_getElem (by omega))
    rw [Nat.zero_add] at g1
    have hne : s.rows (sig ι m j) ≠ .dead := by
      rw [g1]; intro h0; apply g2
      cases hx : lent[j] <;> rw [hx] at h0 <;> simp [AM.renRow] at h0 ⊢
    refine ⟨fun hb => hne (hf.dead _ hb.1 hb.2), ?_⟩
    rcases Nat.lt_or_ge (sig ι m j) s.nx with h1 | h1
    · exact h1
    · exact absurd (hr.mem.dead _ h1) hne
  have hσ : ∀ j, j < out.length → swp m s.nx k (sig ι m j) = sig ι s.nx j := fun j hj => by
    by_cases hji : j < ι.length
    · have := hlive j hji
      rw [sig_lt (n := s.nx) (m := m) hji] at this ⊢
      unfold swp
      rw [if_neg (fun hb => this.1 ⟨hb.1, by omega⟩), if_neg (by omega)]
    · unfold sig
      rw [if_neg hji, if_neg hji]
      unfold swp
      rw [if_pos (by omega)]; omega
  have hscr : Sc (fun i => swp m s.nx k (sig ι m i) = sig ι s.nx i) r := Sc.mono (fun i hi => hσ i hi) r (scB_ok r h.hr)
  have hinj : ∀ a b, a < out.length → b < out.length → sig ι m a = sig ι m b → a = b := fun a b ha hb he => by
    by_cases h1 : a < ι.length <;> by_cases h2 : b < ι.length
    · unfold sig at he
      rw [if_pos h1, if_pos h2, List.getD_eq_getElem?_getD, List.getD_eq_getElem?_getD] at he
      refine (List.getElem?_inj h1 h.hnd).1 ?_
      rw [List.getElem?_eq_getElem h1, List.getElem?_eq_getElem h2] at he ⊢
      simpa using he
    · have := (hlive a h1).1
      rw [he] at this; unfold sig at this; rw [if_neg h2] at this; omega
    · have := (hlive b h2).1
      rw [← he] at this; unfold sig at this; rw [if_neg h1] at this; omega
    · unfold sig at he; rw [if_neg h1, if_neg h2] at he; omega
  have hinjn : ∀ a b, a < out.length → b < out.length → sig ι s.nx a = sig ι s.nx b → a = b := fun a b ha hb he => by
    rw [← hσ a ha, ← hσ b hb] at he
    exact hinj a b ha hb (swp_inj (by omega) he)
  have hall := h.af.call (rows := s.rows) (nx := s.nx) ι T (ps' := ps') h.hι h.hout h.hnd h.hlt (argsOk_base h.args (by rw [← hlens]; exact h.hp)) (lentOk_base h.le (by omega) (by rw [← hlens]; exact h.hl)) h.hT
  have haop : aop P { o with guard := none } s (fun s' => s' = ({ s with rows := updRows s.rows (plc (sig ι s.nx) 0 out), nx := s.nx + k } : St).put o.dst (ren (sig ι s.nx) r)) := by
    unfold aop
    have hcv : ∃ x, c.callee = .value x := by
      unfold calleeOf at hc
      split at hc
      · rename_i x hx; exact ⟨x, hx⟩
      · cases hc
    obtain ⟨x, hx⟩ := hcv
    have hev : evOp P { o with guard := none } s = none := by unfold evOp; simp only [ho, hx]
    rw [hev]
    simp only [ho, hc]
    refine ⟨h.fn, hd, hall.mono fun r' rows' nx' ⟨e1, e2, e3⟩ => ?_⟩
    subst e1; subst e2; subst e3
    rw [hkk]
  have hw := aop_sound haop ⟨β, X, hr⟩ (K' := K) (Q := Q) fun s' a' w' hs' hsat => by
    subst hs'
    obtain ⟨β', X', h'⟩ := hsat
    have hscout : ∀ j row, out[j]? = some row → scRow out.length row = true := fun j row hj => by
      have := h.ho
      rw [List.all_eq_true] at this
      exact this row (List.mem_of_getElem? hj)
    have hget : ∀ {n : Nat}, (∀ a b, a < out.length → b < out.length → sig ι n a = sig ι n b → a = b) → ∀ j, j < out.length → updRows s.rows (plc (sig ι n) 0 out) (sig ι n j) = renRow (sig ι n) (out.getD j .dead) := fun hi j hj => by
      have := updRows_plc (σ := sig ι _) out s.rows 0 j (fun a b _ h2 _ h4 he => hi a b (by omega) (by omega) he) hj
      rwa [Nat.zero_add] at this
    have hnot : ∀ {n : Nat} (i : Nat), (∀ j, j < out.length → sig ι n j ≠ i) → updRows s.rows (plc (sig ι n) 0 out) i = s.rows i := fun i hi => by
      refine updRows_notin _ _ _ fun x hx => ?_
      obtain ⟨a, _, h2, h3⟩ := plc_mem out 0 hx
      rw [h3]; exact hi a (by omega)
    have hsigm : ∀ j, j < out.length → sig ι m j < s.nx := fun j hj => by
      by_cases hji : j < ι.length
      · exact (hlive j hji).2
      · unfold sig; rw [if_neg hji]; omega
    refine hK _ _ (swap_sat (k := k) hf hk64 hr h' (ren_comp r hscr).symm (Sc_ren hsigm r (scB_ok r h.hr)) (fun i => ?_) (fun i hi => ?_) (fun i => ?_))
    · by_cases hex : ∃ j, j < out.length ∧ sig ι m j = i
      · obtain ⟨j, hj, rfl⟩ := hex
        rw [hσ j hj, hget hinjn j hj, hget hinj j hj]
        have hrow : scRow out.length (out.getD j .dead) = true := hscout j _ (by simp [List.getElem?_eq_getElem hj])
        exact (renRow_comp _ (rowSc.mono (fun i hi => hσ i hi) _ (scRow_ok hrow))).symm
      · have hn : ∀ j, j < out.length → sig ι m j ≠ i := fun j hj e => hex ⟨j, hj, e⟩
        rw [hnot i hn]
        rw [hnot _ (fun j hj e => hn j hj (by rw [← hσ j hj] at e; exact swp_inj (by omega) e))]
        rw [hf.renRow hr hk64 i]
        by_cases h1 : m ≤ i ∧ i < m + k
        · have := hn (ι.length + (i - m)) (by omega)
          exact absurd (by unfold sig; rw [if_neg (by omega)]; omega) this
        · by_cases h2 : s.nx ≤ i ∧ i < s.nx + k
          · have e5 : swp m s.nx k i = m + (i - s.nx) := by unfold swp; rw [if_neg h1, if_pos h2]
            rw [e5, hf.dead _ (by omega) (by omega), hr.mem.dead i h2.1]
          · have e5 : swp m s.nx k i = i := by unfold swp; rw [if_neg h1, if_neg h2]
            rw [e5]
    · rw [hnot i (fun j hj e => by have := hsigm j hj; omega)]
      exact hr.mem.dead i hi
    · by_cases hex : ∃ j, j < out.length ∧ sig ι m j = i
      · obtain ⟨j, hj, rfl⟩ := hex
        rw [hget hinj j hj]
        have hrow : scRow out.length (out.getD j .dead) = true := hscout j _ (by simp [List.getElem?_eq_getElem hj])
        exact rowSc_ren hsigm _ (scRow_ok hrow)
      · rw [hnot i fun j hj e => hex ⟨j, hj, e⟩]
        exact hr.mem.sr i
  exact hw
end Go.AM

namespace Go.AM
open Go

/-! ## regions whose order is drawn -/
structure FP where
  ir : List Nat
  iw : List Nat
  im : List Nat

/-- what an operation of a region comes to -/
structure Step where
  fp : FP
  p : PV
  u : List (Nat × Row)

structure Agree (ops : Array Oper) (o : Oper) (f : FP) (s s2 : St) : Prop where
  n : s2.N = s.N
  k : s2.kl = s.kl
  nx : s2.nx = s.nx
  reg : ∀ t ∈ o.looksAt ops, s2.regs t = s.regs t
  row : ∀ i ∈ f.ir, s2.rows i = s.rows i

/-- the operation, or that it is passed over -/
def DoesG (P : Program) (ops : Array Oper) (o : Oper) (x : Step) (s : St) (m : Nat) : Prop :=
  ∀ B β X w a, SRel B β X w a s → Fresh s m → ∀ (K : Act → World → Prop) Q, (∀ a' w', Sat B (s.app o.dst x.p x.u) a' w' → K a' w') →
    if Region.wanted o (yielded ops a.tmps) then o.wp P a w K Q ∨ (o.asks P a w ∧ LetsOut Q) else K (a.put o.dst undef) w

def SOk (P : Program) (ops : Array Oper) (o : Oper) (x : Step) (m : Nat) (s : St) : Prop := ∀ s2, Agree ops o x.fp s s2 → DoesG P ops o x s2 m

/-- in the text's order -/
def Run (P : Program) (ops : Array Oper) (n0 : Nat) (E : Nat → Step) : List Nat → St → St → Prop
  | [], s, s' => s = s'
  | j :: l, s, s' => match ops[j]? with
    | some o => SOk P ops o (E j) (n0 + 64 * j) s ∧ Run P ops n0 E l (s.app o.dst (E j).p (E j).u) s'
    | none => False

def apartI (a b : List Nat) : Bool := a.all fun i => !b.contains i

/-- two operations that do not meet -/
def apartB (ops : Array Oper) (o1 o2 : Oper) (f1 f2 : FP) : Bool :=
  o1.apart ops o2 && (apartI f1.iw f2.ir && apartI f1.iw f2.iw && apartI f2.iw f1.ir)

theorem apartI_spec {a b : List Nat} (h : apartI a b = true) : ∀ i ∈ a, i ∉ b := fun i hi hb => by
  unfold apartI at h
  rw [List.all_eq_true] at h
  have := h i hi
  simp [hb] at this

theorem app_regs_ne {s : St} {d : Option Nat} {p : PV} {u : List (Nat × Row)} {t : Nat} (h : ∀ d', d = some d' → d' ≠ t) : (s.app d p u).regs t = s.regs t := by
  cases d with
  | none => rfl
  | some d => simp only [St.app, St.put]; exact upd_ne _ _ (Ne.symm (h d rfl))

theorem app_rows {s : St} {d : Option Nat} {p : PV} {u : List (Nat × Row)} : (s.app d p u).rows = updRows s.rows u := by cases d <;> rfl
theorem app_nx {s : St} {d : Option Nat} {p : PV} {u : List (Nat × Row)} : (s.app d p u).nx = s.nx := by cases d <;> rfl
theorem app_N {s : St} {d : Option Nat} {p : PV} {u : List (Nat × Row)} : (s.app d p u).N = s.N := by cases d <;> rfl
theorem app_kl {s : St} {d : Option Nat} {p : PV} {u : List (Nat × Row)} : (s.app d p u).kl = s.kl := by cases d <;> rfl

theorem updRows_comm : ∀ (u v : List (Nat × Row)) (rows : Rows), (∀ x ∈ u, ∀ y ∈ v, x.1 ≠ y.1) → updRows (updRows rows u) v = updRows (updRows rows v) u := by
  intro u v rows h
  funext i
  have key : ∀ (w : List (Nat × Row)) (rows rows' : Rows) (i : Nat), rows i = rows' i → updRows rows w i = updRows rows' w i := by
    intro w
    induction w with
    | nil => intro rows rows' i h; exact h
    | cons x w ih =>
      obtain ⟨j, r⟩ := x
      intro rows rows' i h
      simp only [updRows]
      refine ih _ _ _ ?_
      simp only [upd]; split
      · rfl
      · exact h
  by_cases hu : ∃ x ∈ u, x.1 = i
  · obtain ⟨x, hx, hxi⟩ := hu
    have hv : ∀ y ∈ v, y.1 ≠ i := fun y hy e => h x hx y hy (by rw [hxi, e])
    rw [updRows_notin v _ i hv]
    exact key u _ _ i (updRows_notin v _ i hv).symm
  · have hu' : ∀ x ∈ u, x.1 ≠ i := fun x hx e => hu ⟨x, hx, e⟩
    rw [updRows_notin u (updRows rows v) i hu']
    exact key v _ _ i (updRows_notin u _ i hu')

theorem St.ext' {a b : St} (h1 : a.N = b.N) (h2 : a.kl = b.kl) (h3 : a.regs = b.regs) (h4 : a.rows = b.rows) (h5 : a.nx = b.nx) : a = b := by
  cases a; cases b; simp only at *; subst h1; subst h2; subst h3; subst h4; subst h5; rfl

theorem app_comm {s : St} {d1 d2 : Option Nat} {p1 p2 : PV} {u1 u2 : List (Nat × Row)} (hd : ∀ d, d1 = some d → d2 ≠ some d) (hu : ∀ x ∈ u1, ∀ y ∈ u2, x.1 ≠ y.1) :
    (s.app d1 p1 u1).app d2 p2 u2 = (s.app d2 p2 u2).app d1 p1 u1 := by
  refine St.ext' (by simp [app_N]) (by simp [app_kl]) ?_ (by simp only [app_rows]; exact updRows_comm _ _ _ hu) (by simp [app_nx])
  cases d1 with
  | none => cases d2 <;> rfl
  | some d1 => cases d2 with
    | none => rfl
    | some d2 =>
      have hne : d1 ≠ d2 := fun e => hd d1 rfl (by rw [e])
      funext t
      simp only [St.app, St.put, upd]
      split <;> split <;> first | rfl | (exfalso; omega)

/-- what the steps of a region keep to -/
structure Steps (ops : Array Oper) (n0 : Nat) (E : Nat → Step) (before : Nat → Nat → Bool) : Prop where
  w : ∀ (j : Nat) (o : Oper), ops[j]? = some o → ∀ x ∈ (E j).u, x.1 ∈ (E j).fp.iw
  m : ∀ (j : Nat) (o : Oper), ops[j]? = some o → (o.dst ≠ none → Sc (· ∈ (E j).fp.im) (E j).p) ∧ ∀ i r, (i, r) ∈ (E j).u → rowSc (· ∈ (E j).fp.im) r
  s : ∀ (j : Nat) (o : Oper), ops[j]? = some o → ∀ i, i ∈ (E j).fp.im ∨ i ∈ (E j).fp.iw → i < n0 ∨ ∃ k, (k = j ∨ before k j = true) ∧ n0 + 64 * k ≤ i ∧ i < n0 + 64 * k + 64
  a : ∀ (i j : Nat) (o1 o2 : Oper), i < j → ops[i]? = some o1 → ops[j]? = some o2 → before i j = true ∨ apartB ops o1 o2 (E i).fp (E j).fp = true
  e : ∀ (j : Nat) (o : Oper), ops[j]? = some o → ∀ e ∈ o.after.toList, Region.binds .any e = true → e.on < j ∧ before e.on j = true
  t : ∀ (j : Nat) (o : Oper), ops[j]? = some o → ∀ k, before k j = true → ∃ e ∈ o.after.toList, Region.binds .any e = true ∧ (k = e.on ∨ before k e.on = true)

theorem Agree.refl {ops : Array Oper} {o : Oper} {f : FP} {s : St} : Agree ops o f s s := ⟨rfl, rfl, rfl, fun _ _ => rfl, fun _ _ => rfl⟩

/-- one operation made ahead of another one -/
theorem Agree.skip {ops : Array Oper} {o1 o2 : Oper} {f : FP} {s s2 : St} {p : PV} {u : List (Nat × Row)} (hd : ∀ d, o1.dst = some d → d ∉ o2.looksAt ops) (hu : ∀ x ∈ u, x.1 ∉ f.ir) (h : Agree ops o2 f s s2) :
    Agree ops o2 f (s.app o1.dst p u) s2 :=
  ⟨by rw [app_N]; exact h.n, by rw [app_kl]; exact h.k, by rw [app_nx]; exact h.nx,
    fun t ht => by rw [app_regs_ne fun d hd' e => hd d hd' (e ▸ ht)]; exact h.reg t ht,
    fun i hi => by rw [app_rows, updRows_notin _ _ _ fun x hx e => hu x hx (e ▸ hi)]; exact h.row i hi⟩

theorem Agree.unskip {ops : Array Oper} {o1 o2 : Oper} {f : FP} {s s2 : St} {p : PV} {u : List (Nat × Row)} (hd : ∀ d, o1.dst = some d → d ∉ o2.looksAt ops) (hu : ∀ x ∈ u, x.1 ∉ f.ir) (h : Agree ops o2 f (s.app o1.dst p u) s2) :
    Agree ops o2 f s s2 :=
  ⟨by rw [h.n, app_N], by rw [h.k, app_kl], by rw [h.nx, app_nx],
    fun t ht => by rw [h.reg t ht, app_regs_ne fun d hd' e => hd d hd' (e ▸ ht)],
    fun i hi => by rw [h.row i hi, app_rows, updRows_notin _ _ _ fun x hx e => hu x hx (e ▸ hi)]⟩

section
variable {P : Program} {ops : Array Oper} {n0 : Nat} {E : Nat → Step} {before : Nat → Nat → Bool}

theorem Run.front (hS : Steps ops n0 E before) {j : Nat} {o : Oper} (hj : ops[j]? = some o) {s' : St} : ∀ {l : List Nat} {s : St}, Run P ops n0 E l s s' → j ∈ l → l.Pairwise (· < ·) → (∀ i ∈ l, before i j = false) →
    SOk P ops o (E j) (n0 + 64 * j) s ∧ Run P ops n0 E (l.erase j) (s.app o.dst (E j).p (E j).u) s'
  | [], s, _, hm, _, _ => by simp at hm
  | i :: l, s, h, hm, hp, hb => by
    by_cases hij : i = j
    · subst hij
      unfold Run at h
      rw [hj] at h
      simp only [List.erase_cons_head]
      exact h
    · have hmem : j ∈ l := by simpa [Ne.symm hij] using hm
      have hlt : i < j := (List.pairwise_cons.1 hp).1 j hmem
      unfold Run at h
      split at h
      · rename_i o1 hi
        obtain ⟨h1, h2⟩ := h
        obtain ⟨g1, g2⟩ := Run.front hS hj h2 hmem (List.pairwise_cons.1 hp).2 (fun k hk => hb k (by simp [hk]))
        have hap : apartB ops o1 o (E i).fp (E j).fp = true := by
          rcases hS.a i j o1 o hlt hi hj with h | h
          · rw [hb i (by simp)] at h; cases h
          · exact h
        unfold apartB at hap
        simp only [Bool.and_eq_true] at hap
        obtain ⟨a1, ⟨a2, a3⟩, a4⟩ := hap
        obtain ⟨b1, b2, b3⟩ := Oper.apart_spec a1
        have c2 := apartI_spec a2
        have c3 := apartI_spec a3
        have c4 := apartI_spec a4
        have w1 := hS.w i o1 hi
        have w2 := hS.w j o hj
        refine ⟨fun s2 hs2 => g1 s2 (hs2.skip b1 fun x hx => c2 _ (w1 x hx)), ?_⟩
        rw [List.erase_cons_tail (by simpa using hij)]
        unfold Run
        rw [hi]
        refine ⟨fun s2 hs2 => h1 s2 (hs2.unskip b3 fun x hx => c4 _ (w2 x hx)), ?_⟩
        have hcomm : (s.app o1.dst (E i).p (E i).u).app o.dst (E j).p (E j).u = (s.app o.dst (E j).p (E j).u).app o1.dst (E i).p (E i).u :=
          app_comm b2 fun x hx y hy e => c3 x.1 (w1 x hx) (e ▸ w2 y hy)
        rw [← hcomm]
        exact g2
      · exact h.elim

def InD (n0 : Nat) (l : Array Bool) (i : Nat) : Prop := i < n0 ∨ ∃ k, l.getD k false = true ∧ n0 + 64 * k ≤ i ∧ i < n0 + 64 * k + 64

structure Inv (ops : Array Oper) (n0 : Nat) (l : Array Bool) (s : St) : Prop where
  reg : ∀ t, Sc (InD n0 l) (s.regs t)
  row : ∀ i, rowSc (InD n0 l) (s.rows i)
  live : ∀ i, s.rows i ≠ .dead → InD n0 l i
  kl : s.kl ≤ n0
  nx : s.nx = n0 + 64 * ops.size

theorem Inv.fresh {l : Array Bool} {s : St} (h : Inv ops n0 l s) {j : Nat} (hj : j < ops.size) (hl : l.getD j false = false) : Fresh s (n0 + 64 * j) := by
  have hno : ∀ i, n0 + 64 * j ≤ i → i < n0 + 64 * j + 64 → ∀ x, InD n0 l x → x ≠ i := fun i h1 h2 x hx e => by
    subst e
    rcases hx with hx | ⟨k, hk, h3, h4⟩
    · omega
    · have : k = j := by omega
      subst this; rw [hl] at hk; cases hk
  refine ⟨by rw [h.nx]; omega, by have := h.kl; omega, fun i h1 h2 => ?_, fun i h1 h2 t => Sc.mono (fun x hx => hno i h1 h2 x hx) _ (h.reg t), fun i h1 h2 k => rowSc.mono (fun x hx => hno i h1 h2 x hx) _ (h.row k)⟩
  cases hr : s.rows i with
  | dead => rfl
  | _ => exact absurd rfl (hno i h1 h2 i (h.live i (by rw [hr]; simp)))

theorem updRows_cases : ∀ (u : List (Nat × Row)) (rows : Rows) (i : Nat), updRows rows u i = rows i ∨ (i, updRows rows u i) ∈ u
  | [], rows, i => .inl rfl
  | (j, r) :: u, rows, i => by
    simp only [updRows]
    rcases updRows_cases u (upd rows j r) i with h | h
    · by_cases hi : i = j
      · subst hi; rw [upd_same] at h; right; rw [h]; simp
      · rw [upd_ne _ _ hi] at h; exact .inl h
    · right; simp [h]

theorem set_getD {l : Array Bool} {j k : Nat} (hj : j < l.size) : (l.setIfInBounds j true).getD k false = if k = j then true else l.getD k false := by
  rw [Array.getD_eq_getD_getElem?, Array.getD_eq_getD_getElem?, Array.getElem?_setIfInBounds]
  by_cases h : j = k
  · subst h; simp [hj]
  · rw [if_neg h, if_neg (Ne.symm h)]

theorem Inv.step (hS : Steps ops n0 E before) {l : Array Bool} {s : St} (h : Inv ops n0 l s) {j : Nat} {o : Oper} (hj : ops[j]? = some o) (hs : l.size = ops.size) (hb : ∀ k, before k j = true → l.getD k false = true) :
    Inv ops n0 (l.setIfInBounds j true) (s.app o.dst (E j).p (E j).u) := by
  have hjs : j < l.size := by rw [hs]; exact (Array.getElem?_eq_some_iff.1 hj).1
  have h1 : ∀ i, InD n0 l i → InD n0 (l.setIfInBounds j true) i := fun i hi => by
    rcases hi with hi | ⟨k, hk, h3⟩
    · exact .inl hi
    · exact .inr ⟨k, by rw [set_getD hjs]; split <;> simp [hk], h3⟩
  have h2 : ∀ i, i ∈ (E j).fp.im ∨ i ∈ (E j).fp.iw → InD n0 (l.setIfInBounds j true) i := fun i hi => by
    rcases hS.s j o hj i hi with h | ⟨k, hk, h3⟩
    · exact .inl h
    · refine .inr ⟨k, ?_, h3⟩
      rw [set_getD hjs]
      rcases hk with rfl | hk
      · simp
      · split
        · rfl
        · exact hb k hk
  refine ⟨fun t => ?_, fun i => ?_, fun i hi => ?_, by rw [app_kl]; exact h.kl, by rw [app_nx]; exact h.nx⟩
  · cases hd : o.dst with
    | none => exact Sc.mono h1 _ (h.reg t)
    | some d =>
      simp only [St.app, St.put]
      by_cases ht : t = d
      · subst ht; rw [upd_same]
        exact Sc.mono (fun i hi => h2 i (.inl hi)) _ ((hS.m j o hj).1 (by rw [hd]; simp))
      · rw [upd_ne _ _ ht]; exact Sc.mono h1 _ (h.reg t)
  · rw [app_rows]
    rcases updRows_cases (E j).u s.rows i with h3 | h3
    · rw [h3]; exact rowSc.mono h1 _ (h.row i)
    · exact rowSc.mono (fun i hi => h2 i (.inl hi)) _ ((hS.m j o hj).2 i _ h3)
  · rw [app_rows] at hi
    rcases updRows_cases (E j).u s.rows i with h3 | h3
    · rw [h3] at hi; exact h1 i (h.live i hi)
    · exact h2 i (.inr (hS.w j o hj _ h3))

def remL (ops : Array Oper) (l : Array Bool) : List Nat := (List.range ops.size).filter fun i => !l.getD i true

theorem getD_tf {l : Array Bool} {i : Nat} (h : i < l.size) : l.getD i true = l.getD i false := by
  rw [Array.getD_eq_getD_getElem?, Array.getD_eq_getD_getElem?, Array.getElem?_eq_getElem h]; rfl

theorem remL_set {l : Array Bool} {j : Nat} (hs : l.size = ops.size) (hj : j < ops.size) : remL ops (l.setIfInBounds j true) = (remL ops l).erase j := by
  unfold remL
  have hn : ((List.range ops.size).filter fun i => !l.getD i true).Nodup := List.nodup_range.sublist List.filter_sublist
  rw [hn.erase_eq_filter, List.filter_filter]
  refine List.filter_congr fun i hi => ?_
  have hi' := List.mem_range.1 hi
  rw [getD_tf (by simp; omega), getD_tf (l := l) (by omega), set_getD (by omega)]
  by_cases h : i = j
  · subst h; simp
  · simp [h]

theorem any_sound {B : Base} (hS : Steps ops n0 E before) {s' : St} {Q : Exit → Act → World → Prop} (hQ : ∀ a w, Sat B s' a w → Q .normal a w) : ∀ (fuel : Nat) (l : Array Bool) (s : St) (a : Act) (w : World), l.size = ops.size →
    Run P ops n0 E (remL ops l) s s' → Inv ops n0 l s → (∀ k, l.getD k false = true → ∀ i, before i k = true → l.getD i false = true) → Sat B s a w → (remL ops l).length ≤ fuel → wpAny P .any ops Q fuel l a w := by
  -- where none is ready all are made
  have hnil : ∀ (l : Array Bool), l.size = ops.size → Region.ready .any ops l = [] → remL ops l = [] := fun l hs hr => by
    cases hrem : remL ops l with
    | nil => rfl
    | cons i rest =>
      exfalso
      have hpw : (remL ops l).Pairwise (· < ·) := List.Pairwise.filter _ List.pairwise_lt_range
      have hi : i ∈ remL ops l := by rw [hrem]; simp
      have hi2 := List.mem_filter.1 hi
      have hin := List.mem_range.1 hi2.1
      have : i ∈ Region.ready .any ops l := by
        unfold Region.ready
        refine List.mem_filter.2 ⟨hi2.1, ?_⟩
        simp only [Bool.and_eq_true]
        refine ⟨hi2.2, ?_⟩
        rw [Array.getElem?_eq_getElem hin]
        simp only [Option.map_some, Option.getD_some]
        rw [Array.all_eq_true']
        intro e he
        cases hb : Region.binds .any e with
        | false => rfl
        | true =>
          simp only [Bool.not_true, Bool.false_or]
          obtain ⟨h1, _⟩ := hS.e i ops[i] (Array.getElem?_eq_getElem hin) e (by simpa using he) hb
          cases hl : l.getD e.on false with
          | true => rfl
          | false =>
            have hm : e.on ∈ remL ops l := List.mem_filter.2 ⟨List.mem_range.2 (by omega), by rw [getD_tf (by omega), hl]; rfl⟩
            rw [hrem] at hm hpw
            rcases List.mem_cons.1 hm with h | h
            · omega
            · have := (List.pairwise_cons.1 hpw).1 _ h; omega
      rw [hr] at this
      simp at this
  intro fuel
  induction fuel with
  | zero =>
    intro l s a w hs hrun _ _ hsat hlen
    have h0 : remL ops l = [] := List.eq_nil_of_length_eq_zero (by omega)
    refine ⟨?_, hQ a w ?_⟩
    · cases hr : Region.ready .any ops l with
      | nil => rfl
      | cons i rest =>
        exfalso
        have hi : i ∈ Region.ready .any ops l := by rw [hr]; simp
        unfold Region.ready at hi
        have hi2 := List.mem_filter.1 hi
        simp only [Bool.and_eq_true] at hi2
        have : i ∈ remL ops l := List.mem_filter.2 ⟨hi2.1, hi2.2.1⟩
        rw [h0] at this
        simp at this
    · rw [h0] at hrun; unfold Run at hrun; rw [← hrun]; exact hsat
  | succ fuel ih =>
    intro l s a w hs hrun hinv hcl hsat hlen
    refine ⟨fun hr => ?_, fun i hi => ?_⟩
    · rw [hnil l hs hr] at hrun; unfold Run at hrun; exact hQ a w (hrun ▸ hsat)
    · unfold Region.ready at hi
      have hi2 := List.mem_filter.1 hi
      simp only [Bool.and_eq_true] at hi2
      have hin := List.mem_range.1 hi2.1
      have hmem : i ∈ remL ops l := List.mem_filter.2 ⟨hi2.1, hi2.2.1⟩
      have hli : l.getD i false = false := by
        have := hi2.2.1
        rw [getD_tf (by omega)] at this
        simpa using this
      have hj : ops[i]? = some ops[i] := Array.getElem?_eq_getElem hin
      have hpre : ∀ k, before k i = true → l.getD k false = true := fun k hk => by
        obtain ⟨e, he, hb, hk2⟩ := hS.t i ops[i] hj k hk
        have hall := hi2.2.2
        rw [hj] at hall
        simp only [Option.map_some, Option.getD_some] at hall
        rw [Array.all_eq_true'] at hall
        have h1 := hall e (by simpa using he)
        rw [hb] at h1
        simp only [Bool.not_true, Bool.false_or] at h1
        rcases hk2 with rfl | hk2
        · exact h1
        · exact hcl e.on h1 k hk2
      have hpw : (remL ops l).Pairwise (· < ·) := List.Pairwise.filter _ List.pairwise_lt_range
      obtain ⟨g1, g2⟩ := Run.front hS hj hrun hmem hpw (fun k hk => by
        cases hb : before k i with
        | false => rfl
        | true =>
          have h1 := hpre k hb
          have h2 := (List.mem_filter.1 hk).2
          have h3 := List.mem_range.1 (List.mem_filter.1 hk).1
          rw [getD_tf (by omega), h1] at h2
          cases h2)
      obtain ⟨β, X, hrel⟩ := hsat
      have hdo := g1 s Agree.refl B β X w a hrel (hinv.fresh hin hli) (wpAny P .any ops Q fuel (l.setIfInBounds i true)) Q (fun a' w' hsat' => by
        refine ih _ _ a' w' (by simp [hs]) (by rw [remL_set hs hin]; exact g2) (hinv.step hS hj hs hpre) (fun k hk i' hb => ?_) hsat' ?_
        · rw [set_getD (by omega)] at hk ⊢
          split
          · rfl
          · split at hk
            · rename_i hki; subst hki; exact hpre i' hb
            · exact hcl k hk i' hb
        · rw [remL_set hs hin, List.length_erase_of_mem hmem]; omega)
      unfold wpOp
      rw [hj]
      exact hdo
end
end Go.AM
