/- Proved here: a part of an abstract machine for the walks of this program, and that it tells the truth about the model. No condition. -/
import Derived.Test.YtjaklhbifgbiaaaAmG
set_option linter.unusedSimpArgs false
set_option linter.unusedVariables false
namespace Go.AM
open Go

/-! ## new blocks -/
def wpush (w : World) (o : Obj) : World := { w with heap := w.heap.push o }

theorem wpush_get (w : World) (o : Obj) : (wpush w o).heap[w.heap.size]? = some o := by show (w.heap.push o)[w.heap.size]? = some o; simp

theorem run_newRow {P : Program} (t : TypeId) (cs : Array Value) (w : World) : (newRow t cs).run P w = .ok ⟨w.heap.size, 0, none⟩ (wpush w (.cells cs t)) := by
  simp [newRow, newObj, Sem.run, wpush]

theorem Thaw_zero (n : Nat) : Thaw (0, 0) n := ⟨Nat.le_refl _, fun j _ h => by simp at h⟩

/-- a new box -/
theorem Mem.box {B : Base} {β : Nat → Loc} {X : Nat → Prop} {w : World} {rows : Rows} {nx : Nat} (hm : Mem B β X w rows nx) (t : TypeId) {cs : Array Value} {ps : List PV}
    (h : repPs rows β w X ps cs.toList) (ho : ∀ u ∈ cs.toList, oc u = true) (hs : Scs (· < nx) ps) :
    ∃ β', Mem B β' (fun b => X b ∨ b = w.heap.size) (wpush w (.cells cs t)) (upd rows nx (.box ps)) (nx + 1) ∧
      repP (upd rows nx (.box ps)) β' (wpush w (.cells cs t)) (fun b => X b ∨ b = w.heap.size) (.ptr nx 0) (.pointer (some ⟨w.heap.size, 0, none⟩)) ∧
      (∀ p v, Sc (· < nx) p → repP rows β w X p v → repP (upd rows nx (.box ps)) β' (wpush w (.cells cs t)) (fun b => X b ∨ b = w.heap.size) p v) := by
  have hk : KeepX w X (wpush w (.cells cs t)) (fun b => X b ∨ b = w.heap.size) := KeepX.alloc rfl
  have hC : ∀ i, i < nx → RowC (rows i) (upd rows nx (.box ps) i) ∧ (upd rows nx (.box ps) i ≠ .dead → upd β nx ⟨some ⟨w.heap.size, 0, none⟩, 0⟩ i = β i) := fun i hi => by
    rw [upd_ne _ _ (by omega), upd_ne _ _ (by omega)]; exact ⟨RowC.refl _, fun _ => rfl⟩
  refine ⟨upd β nx ⟨some ⟨w.heap.size, 0, none⟩, 0⟩, Mem.alloc hm (.cells cs t) _ _ rfl rfl rfl rfl ?_ (fun b hb => by simp [rblk] at hb; exact hb.symm) (fun cells hc => by cases hc; exact hs), ?_, fun p v hp h => repP_mono hk hC p v hp h⟩
  · exact ⟨w.heap.size, cs, t, (0, 0), rfl, .inr rfl, wpush_get _ _, Thaw_zero _, repPs_mono hk hC _ _ hs h, ho⟩
  · unfold repP
    exact fun _ => ⟨w.heap.size, by rw [upd_same], rfl⟩

/-- a new owned row -/
theorem Mem.row {B : Base} {β : Nat → Loc} {X : Nat → Prop} {w : World} {rows : Rows} {nx : Nat} (hm : Mem B β X w rows nx) (t : TypeId) {cs : Array Value} {sz cap : Nat} {el : List (List DV)}
    (h : repss w X sz el (cs.toList.take (el.length * sz))) (hl : el.length ≤ cap) (hc : cs.size = cap * sz) (hmx : cap ≤ maxLen) :
    ∃ β', Mem B β' (fun b => X b ∨ b = w.heap.size) (wpush w (.cells cs t)) (upd rows nx (.own sz el)) (nx + 1) ∧
      repP (upd rows nx (.own sz el)) β' (wpush w (.cells cs t)) (fun b => X b ∨ b = w.heap.size) (.own nx) (.slice (some ⟨w.heap.size, 0, none⟩) el.length cap) ∧
      (∀ p v, Sc (· < nx) p → repP rows β w X p v → repP (upd rows nx (.own sz el)) β' (wpush w (.cells cs t)) (fun b => X b ∨ b = w.heap.size) p v) := by
  have hk : KeepX w X (wpush w (.cells cs t)) (fun b => X b ∨ b = w.heap.size) := KeepX.alloc rfl
  have hC : ∀ i, i < nx → RowC (rows i) (upd rows nx (.own sz el) i) ∧ (upd rows nx (.own sz el) i ≠ .dead → upd β nx ⟨some ⟨w.heap.size, 0, none⟩, cap⟩ i = β i) := fun i hi => by
    rw [upd_ne _ _ (by omega), upd_ne _ _ (by omega)]; exact ⟨RowC.refl _, fun _ => rfl⟩
  refine ⟨upd β nx ⟨some ⟨w.heap.size, 0, none⟩, cap⟩, Mem.alloc hm (.cells cs t) _ _ rfl rfl rfl rfl ?_ (fun b hb => by simp [rblk] at hb; exact hb.2.symm) (fun cells hc => by cases hc), ?_, fun p v hp h => repP_mono hk hC p v hp h⟩
  · refine ⟨hl, hmx, ?_⟩
    by_cases h0 : cap = 0
    · exact .inl ⟨h0, List.eq_nil_of_length_eq_zero (by omega)⟩
    · exact .inr ⟨w.heap.size, cs, t, (0, 0), by show 0 < cap; omega, rfl, .inr rfl, wpush_get _ _, Thaw_zero _, hc, repss_mono hk sz _ _ h⟩
  · unfold repP
    intro sz' el' he
    rw [upd_same] at he
    cases he
    rw [upd_same]

def effNew (r : Row) (nx : Nat) (p : PV) (ok : Prop) : Eff := { ok, val := p, upds := [(nx, r)], nn := 1 }

theorem SRel.of_mem {B : Base} {β β' : Nat → Loc} {X X' : Nat → Prop} {w w' : World} {a : Act} {s : St} (h : SRel B β X w a s) {rows' : Rows} {nx' : Nat} (hm : Mem B β' X' w' rows' nx') (hn : s.nx ≤ nx')
    (hp : ∀ p v, Sc (· < s.nx) p → repP s.rows β w X p v → repP rows' β' w' X' p v) : SRel B β' X' w' a { s with rows := rows', nx := nx' } :=
  ⟨hm, h.defers, h.size, h.kl, fun t => hp _ _ (h.sc t) (h.rg t), fun t => Sc.mono (fun _ k => by simp only; omega) _ (h.sc t)⟩

/-- box -/
def evBox (s : St) (p : PV) : Option Eff :=
  match cellsP s.rows p with
  | some ps => some (effNew (.box ps) s.nx (.ptr s.nx 0) True)
  | none => none

theorem evBox_ok {P : Program} {o : Oper} {s : St} {t : TypeId} {x : Operand} {e : Eff} (ho : o.op = .box t x) (he : evBox s (ev s.regs x) = some e) : OpSound P o s e := by
  unfold evBox at he
  split at he
  · rename_i ps hps
    simp only [Option.some.injEq] at he; subst he
    intro B β X w a hr _
    obtain ⟨hx, hsx⟩ := hr.ev x
    obtain ⟨c1, c2, c3⟩ := cellsP_ok hx hsx hps
    obtain ⟨β', m1, m2, m3⟩ := hr.mem.box t c1 c2 c3
    refine ⟨_, _, β', _, .inl ?_, hr.of_mem m1 (by omega) m3, m2, by show s.nx < s.nx + 1; omega⟩
    simp only [execOp, ho, Instr.box, newVar, Sem.run_bind, run_newRow, Result.andThen_ok, Sem.run_pure]
  · cases he

/-- alloc -/
def evAlloc (P : Program) (s : St) (t : TypeId) : Option Eff :=
  match tyOf P t with
  | some ty => match ty.zero with
    | some z => if z.cells.toList.all oc then some (effNew (.box (z.cells.toList.map fun v => .d (.lit v))) s.nx (.ptr s.nx 0) True) else none
    | none => none
  | none => none

theorem evAlloc_ok {P : Program} {o : Oper} {s : St} {t : TypeId} {e : Eff} (ho : o.op = .alloc t) (he : evAlloc P s t = some e) : OpSound P o s e := by
  unfold evAlloc at he
  split at he
  · rename_i ty hty
    split at he
    · rename_i z hz
      split at he
      · rename_i hoc
        simp only [Option.some.injEq] at he; subst he
        intro B β X w a hr _
        have hl := reps_lits w X z.cells.toList hoc
        have c1 : repPs s.rows β w X (z.cells.toList.map fun v => .d (.lit v)) z.cells.toList := by
          have := repPs_of_reps (rows := s.rows) (β := β) hl
          rw [List.map_map] at this; exact this
        have c3 : Scs (· < s.nx) (z.cells.toList.map fun v => .d (.lit v)) := Scs.of_mem fun p hp => by
          obtain ⟨v, _, rfl⟩ := List.mem_map.1 hp; trivial
        obtain ⟨β', m1, m2, m3⟩ := hr.mem.box t c1 (reps_oc hl) c3
        refine ⟨_, _, β', _, .inl ?_, hr.of_mem m1 (by omega) m3, m2, by show s.nx < s.nx + 1; omega⟩
        simp only [execOp, ho, Instr.alloc, newVar, Sem.run_bind, tyOf_zero hty hz, run_newRow, Result.andThen_ok, Sem.run_pure]
      · cases he
    · cases he
  · cases he

/-! ## build -/
theorem fold_set (off : Nat) : ∀ (vs : List Value) (i : Nat) (cs : Array Value), off + i + vs.length ≤ cs.size →
    ((vs.zipIdx i).foldl (fun cs (x : Value × Nat) => cs.setIfInBounds (off + x.2) x.1) cs).toList = cs.toList.take (off + i) ++ vs ++ cs.toList.drop (off + i + vs.length)
  | [], i, cs, _ => by simp
  | v :: vs, i, cs, h => by
    simp only [List.length_cons] at h
    simp only [List.zipIdx_cons, List.foldl_cons]
    rw [fold_set off vs (i + 1) _ (by simp; omega), Array.toList_setIfInBounds, show off + (i + 1) = off + i + 1 from rfl, splice_step _ _ _ _ (by simpa using by omega)]
    rfl

theorem fill_cons {place : Nat → Option (Nat × Nat)} {cs : Array Value} {i off size : Nat} {v : Value} {rest : List (Nat × Value)} (h : place i = some (off, size)) (hs : v.cells.size = size) (hb : off + size ≤ cs.size) :
    Instr.fill place cs ((i, v) :: rest) = Instr.fill place (cs.toList.take off ++ v.cells.toList ++ cs.toList.drop (off + size)).toArray rest := by
  simp only [Instr.fill, h, hs]
  rw [if_neg (by simp; omega)]
  congr 1
  apply Array.toList_inj.1
  have := fold_set off v.cells.toList 0 cs (by simp [hs]; omega)
  simp only [Nat.add_zero, Array.length_toList, hs] at this
  rw [← this, ← Array.foldl_toList, Array.toList_zipIdx]

def splice (cells : List PV) (off : Nat) (ps : List PV) : List PV := cells.take off ++ ps ++ cells.drop (off + ps.length)

def fillP (P : Program) (rows : Rows) (fs : List (Nat × TypeId)) : List PV → List (Nat × PV) → Option (List PV)
  | cells, [] => some cells
  | cells, (i, p) :: rest =>
    match fs[i]?, cellsP rows p with
    | some (off, t), some ps => match tyOf P t with
      | some ty => if ps.length = ty.size ∧ off + ty.size ≤ cells.length then fillP P rows fs (splice cells off ps) rest else none
      | none => none
    | _, _ => none

def places (P : Program) (fs : List (Nat × TypeId)) : List (Nat × Nat) := fs.map fun f => (f.1, ((P.info? f.2).map (·.size)).getD 0)

theorem fillP_ok {P : Program} {rows : Rows} {β : Nat → Loc} {w : World} {X : Nat → Prop} {S : Nat → Prop} {fs : List (Nat × TypeId)} : ∀ {parts : List (Nat × PV)} {vparts : List (Nat × Value)} {cells : List PV} {cs : Array Value} {out : List PV},
    fillP P rows fs cells parts = some out → parts.length = vparts.length → (∀ (j i : Nat) (p : PV) (k : Nat) (v : Value), parts[j]? = some (i, p) → vparts[j]? = some (k, v) → k = i ∧ repP rows β w X p v ∧ Sc S p) →
    repPs rows β w X cells cs.toList → (∀ u ∈ cs.toList, oc u = true) → Scs S cells →
    ∃ cs', Instr.fill ((places P fs)[·]?) cs vparts = some cs' ∧ repPs rows β w X out cs'.toList ∧ (∀ u ∈ cs'.toList, oc u = true) ∧ Scs S out
  | [], [], cells, cs, out, h, _, _, h1, h2, h3 => by
    simp only [fillP, Option.some.injEq] at h; subst h
    exact ⟨cs, rfl, h1, h2, h3⟩
  | [], _ :: _, cells, cs, out, h, hl, _, h1, h2, h3 => by simp at hl
  | _ :: _, [], cells, cs, out, h, hl, _, h1, h2, h3 => by simp at hl
  | (i, p) :: parts, (k, v) :: vparts, cells, cs, out, h, hl, hp, h1, h2, h3 => by
    obtain ⟨rfl, hpv, hsp⟩ := hp 0 i p k v rfl rfl
    simp only [fillP] at h
    split at h
    · rename_i off t ps hf hps
      split at h
      · rename_i ty hty
        split at h
        · rename_i hsz
          obtain ⟨c1, c2, c3⟩ := cellsP_ok hpv hsp hps
          have cl := repPs_length c1
          have hcl := repPs_length h1
          simp only [Array.length_toList] at cl hcl
          obtain ⟨ii, u, q1, q2, q3, q4, _⟩ := tyOf_spec hty
          have hpl : (places P fs)[k]? = some (off, ty.size) := by
            simp [places, hf, q1, q4]
          rw [fill_cons hpl (by omega) (by omega)]
          refine fillP_ok (parts := parts) h (by simpa using hl) (fun j i p k v a b => hp (j + 1) i p k v a b) ?_ ?_ ?_
          · have := repPs_append (repPs_append (repPs_take off h1) c1) (repPs_drop (off + ps.length) h1)
            simp only [splice]
            rw [hsz.1] at this ⊢
            exact this
          · intro u hu
            simp only [List.append_assoc, List.mem_append] at hu
            rcases hu with hu | hu | hu
            · exact h2 u (List.mem_of_mem_take hu)
            · exact c2 u hu
            · exact h2 u (List.mem_of_mem_drop hu)
          · exact Scs.append (Scs.append (h3.take _) c3) (h3.drop _)
        · cases h
      · cases h
    · cases h

theorem mapM_places {P : Program} {w : World} : ∀ (fs : List Field), (∀ f ∈ fs, (tyOf P f.type).isSome) →
    (fs.mapM (m := Sem) fun f => do pure (f.offset, ← sizeOf f.type)).run P w = .ok (places P (fs.map fun f => (f.offset, f.type))) w
  | [], _ => by simp [places]
  | f :: fs, h => by
    have ih := mapM_places (P := P) (w := w) fs fun g hg => h g (by simp [hg])
    have hf := h f (by simp)
    cases ht : tyOf P f.type with
    | none => rw [ht] at hf; cases hf
    | some ty =>
      obtain ⟨ii, u, q1, q2, q3, q4, _⟩ := tyOf_spec ht
      simp only [List.mapM_cons, Sem.run_bind, tyOf_size ht, Result.andThen_ok, Sem.run_pure, ih]
      simp [places, q1, q4]

def evBuild (P : Program) (s : St) (t : TypeId) (parts : List (Nat × PV)) : Option PV :=
  match tyOf P t with
  | some ty => match ty.k, ty.zero with
    | .struct fs, some z =>
      if z.cells.toList.all oc && fs.all (fun f => (tyOf P f.2).isSome) then
        match fillP P s.rows fs (z.cells.toList.map fun v => .d (.lit v)) parts with
        | some out => some (mkAgg out)
        | none => none
      else none
    | _, _ => none
  | none => none

theorem evBuild_ok {P : Program} {o : Oper} {s : St} {t : TypeId} {parts : Array (Nat × Operand)} {q : PV} (ho : o.op = .build t parts)
    (he : evBuild P s t (parts.toList.map fun x => (x.1, ev s.regs x.2)) = some q) : OpSound P o s (Eff.pureIf True q) := by
  unfold evBuild at he
  split at he
  · rename_i ty hty
    split at he
    · rename_i fs z hk hz
      split at he
      · rename_i hall
        simp only [Bool.and_eq_true] at hall
        split at he
        · rename_i out hout
          simp only [Option.some.injEq] at he; subst he
          refine sound_pure fun B β X w a hr _ => ?_
          have hl := reps_lits w X z.cells.toList hall.1
          have c1 : repPs s.rows β w X (z.cells.toList.map fun v => .d (.lit v)) z.cells.toList := by
            have := repPs_of_reps (rows := s.rows) (β := β) hl
            rw [List.map_map] at this; exact this
          have c3 : Scs (· < s.nx) (z.cells.toList.map fun v => .d (.lit v)) := Scs.of_mem fun p hp => by
            obtain ⟨v, _, rfl⟩ := List.mem_map.1 hp; trivial
          obtain ⟨gs, hu, hfs⟩ := tyOf_struct hty hk
          obtain ⟨cs', f1, f2, f3, f4⟩ := fillP_ok (S := (· < s.nx)) (vparts := parts.toList.map fun x => (x.1, a.eval x.2)) hout (by simp) (fun j i p k v h1 h2 => by
            simp only [List.getElem?_map, Option.map_eq_some_iff] at h1 h2
            obtain ⟨x, hx, hx'⟩ := h1
            obtain ⟨y, hy, hy'⟩ := h2
            rw [hx] at hy
            obtain rfl : x = y := by simpa using hy
            simp only [Prod.mk.injEq] at hx' hy'
            obtain ⟨rfl, rfl⟩ := hx'
            obtain ⟨rfl, rfl⟩ := hy'
            exact ⟨rfl, hr.ev x.2⟩) c1 (reps_oc hl) c3
          refine ⟨.agg cs', ?_, ?_, Sc_mkAgg f4⟩
          · have hm := mapM_places (P := P) (w := w) gs.toList fun f hf => by
              rw [hfs] at hall
              simp only [List.all_map, List.all_eq_true] at hall
              exact hall.2 f hf
            simp only [execOp, ho, Instr.build, Sem.run_bind, tyOf_zero hty hz, Result.andThen_ok, run_underlying hu, Array.mapM_eq_mapM_toList, Sem.run_map, hm]
            rw [hfs] at f1
            have f1' : Instr.fill (fun x => (places P (gs.toList.map fun f => (f.offset, f.type))).toArray[x]?) z.cells (parts.map fun x => (x.1, a.eval x.2)).toList = some cs' := by
              simpa using f1
            simp only [f1', Result.andThen_ok, Sem.run_pure]
          · simpa using mkAgg_ok f2 f3
        · cases he
      · cases he
    · cases he
  · cases he
end Go.AM
