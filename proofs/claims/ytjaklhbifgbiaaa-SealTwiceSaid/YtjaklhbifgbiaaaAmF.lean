/- Proved here: a part of an abstract machine for the walks of this program, and that it tells the truth about the model. No condition. -/
import Derived.Test.YtjaklhbifgbiaaaAmE
set_option linter.unusedSimpArgs false
set_option linter.unusedVariables false
namespace Go.AM
open Go

/-- n cells at a pointer -/
def getC (rows : Rows) (p : PV) (n : Nat) : Option (List PV) :=
  match p with
  | .ptr i off => match rows i with
    | .box cells => if off + n ≤ cells.length then some ((cells.drop off).take n) else none
    | _ => none
  | .iptr cs => if n ≤ cs.length then some ((cs.take n).map .d) else none
  | .eptr i k c => match rows i with
    | .own _ el => match el[k]? with
      | some e => if c + n ≤ e.length then some (((e.drop c).take n).map .d) else none
      | none => none
    | _ => none
  | _ => none

theorem cell_of_heap {w : World} {b j : Nat} {cs : Array Value} {e : TypeId} {fr : Nat × Nat} (h : w.heap[b]? = some (.cells cs e fr)) : w.cell? ⟨b, j, none⟩ = cs[j]? := by
  simp [World.cell?, h]

theorem reps_take {w : World} {X : Nat → Prop} {xs : List DV} {vs : List Value} (k : Nat) (h : reps w X xs vs) : reps w X (xs.take k) (vs.take k) := by
  have hl := reps_length h
  by_cases hk : k ≤ xs.length
  · have := (reps_split (xs := xs.take k) (ys := xs.drop k) (by rw [List.take_append_drop]; exact h)).1
    rwa [List.length_take, Nat.min_eq_left hk] at this
  · have e1 : xs.take k = xs := List.take_of_length_le (by omega)
    have e2 : vs.take k = vs := List.take_of_length_le (by omega)
    rw [e1, e2]; exact h

theorem reps_drop {w : World} {X : Nat → Prop} {xs : List DV} {vs : List Value} (k : Nat) (h : reps w X xs vs) : reps w X (xs.drop k) (vs.drop k) := by
  have hl := reps_length h
  by_cases hk : k ≤ xs.length
  · have := (reps_split (xs := xs.take k) (ys := xs.drop k) (by rw [List.take_append_drop]; exact h)).2
    rwa [List.length_take, Nat.min_eq_left hk] at this
  · have e1 : xs.drop k = [] := List.drop_of_length_le (by omega)
    have e2 : vs.drop k = [] := List.drop_of_length_le (by omega)
    rw [e1, e2]; simp [reps]

theorem getC_ok {B : Base} {β : Nat → Loc} {X : Nat → Prop} {w : World} {rows : Rows} {nx n : Nat} {p : PV} {v : Value} {ps : List PV} (hm : Mem B β X w rows nx)
    (h : repP rows β w X p v) (hg : getC rows p n = some ps) :
    ∃ b off vs, v = .pointer (some ⟨b, off, none⟩) ∧ repPs rows β w X ps vs ∧ vs.length = n ∧ (∀ u ∈ vs, oc u = true) ∧ Scs (· < nx) ps ∧
      ∀ j u, vs[j]? = some u → w.cell? ⟨b, off + j, none⟩ = some u := by
  cases p with
  | ptr i off =>
    simp only [getC] at hg
    split at hg
    · rename_i cells hi
      split at hg
      · rename_i hle
        simp only [Option.some.injEq] at hg; subst hg
        have hrow := hm.ok i
        rw [hi] at hrow
        obtain ⟨b, cs, e, fr, h1, h2, h3, h4, h5, h6⟩ := hrow
        unfold repP at h
        obtain ⟨b', h7, h8⟩ := h (by rw [hi]; simp)
        rw [h1] at h7
        obtain rfl : b = b' := by simpa using h7
        have hl := repPs_length h5
        refine ⟨b, off, (cs.toList.drop off).take n, h8, repPs_take n (repPs_drop off h5), by simp at hl ⊢; omega, fun u hu => h6 u (List.mem_of_mem_drop (List.mem_of_mem_take hu)), (hm.scr i cells hi).drop off |>.take n, fun j u hu => ?_⟩
        rw [cell_of_heap h3]
        rw [List.getElem?_take] at hu
        split at hu
        · rw [List.getElem?_drop] at hu; simpa using hu
        · cases hu
      · cases hg
    · cases hg
  | iptr cs =>
    simp only [getC] at hg
    split at hg
    · rename_i hle
      simp only [Option.some.injEq] at hg; subst hg
      unfold repP at h
      obtain ⟨b, off, vs, h1, h2, h3, h4, h5⟩ := h
      have hl := reps_length h2
      refine ⟨b, off, vs.take n, h1, repPs_of_reps (reps_take n h2), by simp; omega, fun u hu => reps_oc h2 u (List.mem_of_mem_take hu), Scs_d _ _, fun j u hu => h5 j u ?_⟩
      rw [List.getElem?_take] at hu
      split at hu
      · exact hu
      · cases hu
    · cases hg
  | eptr i k c =>
    simp only [getC] at hg
    split at hg
    · rename_i sz el hi
      split at hg
      · rename_i e he
        split at hg
        · rename_i hle
          simp only [Option.some.injEq] at hg; subst hg
          have hrow := hm.ok i
          rw [hi] at hrow
          obtain ⟨h1, h2, h3⟩ := hrow
          unfold repP at h
          obtain ⟨hk, b', h7, h8⟩ := h sz el hi
          rcases h3 with ⟨_, rfl⟩ | ⟨b, cs, ety, fr, h3, h4, h5, h6, h9, h10, h11⟩
          · simp at hk
          · rw [h4] at h7
            obtain rfl : b = b' := by simpa using h7
            obtain ⟨g1, g2, g3⟩ := repss_get h11 k e he
            rw [List.length_take, Array.length_toList] at g3
            have hr := reps_take n (reps_drop c g2)
            have hrl := reps_length hr
            refine ⟨b, k * sz + c, _, h8, repPs_of_reps hr, by rw [hrl]; simp; omega, reps_oc hr, Scs_d _ _, fun j u hu => ?_⟩
            rw [cell_of_heap h6]
            rw [List.getElem?_take] at hu
            split at hu
            · rw [List.getElem?_drop, List.getElem?_take] at hu
              split at hu
              · rw [List.getElem?_drop, List.getElem?_take] at hu
                split at hu
                · rw [Nat.add_assoc]; simpa using hu
                · cases hu
              · cases hu
            · cases hu
        · cases hg
      · cases hg
    · cases hg
  | _ => simp [getC] at hg

theorem run_loadCells_at {P : Program} {w : World} {b off : Nat} {vs : List Value} (h : ∀ j u, vs[j]? = some u → w.cell? ⟨b, off + j, none⟩ = some u) :
    (loadCells ⟨b, off, none⟩ vs.length).run P w = .ok vs.toArray w :=
  run_loadCells_list w _ vs fun j u hu => by rw [Addr.add_lit]; exact h j u hu

theorem run_load_at {P : Program} {w : World} {a : Addr} {u : Value} (h : w.cell? a = some u) : (load a).run P w = .ok u w := by
  simp [load, Sem.run, h]

def evLoad (P : Program) (rows : Rows) (t : TypeId) (p : PV) : Option PV :=
  match tyOf P t with
  | some ty => match getC rows p ty.size with
    | some ps => if ty.k.agg then some (mkAgg ps) else match ps with | [q] => some q | _ => none
    | none => none
  | none => none

theorem evLoad_ok {P : Program} {B : Base} {β : Nat → Loc} {X : Nat → Prop} {w : World} {rows : Rows} {nx : Nat} {t : TypeId} {p q : PV} {v : Value} (hm : Mem B β X w rows nx)
    (h : repP rows β w X p v) (he : evLoad P rows t p = some q) :
    ∃ u, (Instr.loadAt t v).run P w = .ok u w ∧ repP rows β w X q u ∧ Sc (· < nx) q := by
  unfold evLoad at he
  split at he
  · rename_i ty hty
    split at he
    · rename_i ps hps
      obtain ⟨b, off, vs, h1, h2, h3, h4, h5, h6⟩ := getC_ok hm h hps
      subst h1
      split at he
      · rename_i hagg
        simp only [Option.some.injEq] at he; subst he
        refine ⟨.agg vs.toArray, ?_, mkAgg_ok h2 h4, Sc_mkAgg h5⟩
        simp only [Instr.loadAt, Instr.sureAddr, Sem.run_bind, Sem.run_pure, Result.andThen_ok, loadVar, tyOf_agg hty, hagg, if_true, tyOf_size hty, ← h3, run_loadCells_at h6]
      · rename_i hagg
        split at he
        · rename_i q'
          simp only [Option.some.injEq] at he; subst he
          unfold repPs at h2
          obtain ⟨u, us, rfl, h7, h8⟩ := h2
          have hc := h6 0 u rfl
          refine ⟨u, ?_, h7, h5.1⟩
          simp only [Instr.loadAt, Instr.sureAddr, Sem.run_bind, Sem.run_pure, Result.andThen_ok, loadVar, tyOf_agg hty, hagg]
          exact run_load_at (by simpa using hc)
        · cases he
    · cases he
  · cases he

/-! ## stores -/
def setBlk (w : World) (b : Nat) (o : Obj) : World := { w with heap := w.heap.setIfInBounds b o }

theorem setCell_blk {w : World} {b j : Nat} {cs : Array Value} {e : TypeId} {fr : Nat × Nat} (h : w.heap[b]? = some (.cells cs e fr)) (v : Value) :
    w.setCell ⟨b, j, none⟩ v = setBlk w b (.cells (cs.setIfInBounds j v) e fr) := by
  unfold World.setCell setBlk
  congr 1
  apply Array.ext_getElem?
  intro i
  rw [Array.getElem?_modify, Array.getElem?_setIfInBounds]
  by_cases hi : b = i
  · subst hi
    have hlt := (Array.getElem?_eq_some_iff.1 h).1
    rw [if_pos rfl, if_pos hlt, h]; simp
  · simp [hi]

theorem setBlk_get {w : World} {b : Nat} {o : Obj} (h : b < w.heap.size) : (setBlk w b o).heap[b]? = some o := by
  simp [setBlk, h]

theorem setBlk_setBlk (w : World) (b : Nat) (o o' : Obj) : setBlk (setBlk w b o) b o' = setBlk w b o' := by
  simp [setBlk]

theorem setBlk_self {w : World} {b : Nat} {o : Obj} (h : w.heap[b]? = some o) : setBlk w b o = w := by
  unfold setBlk
  have : w.heap.setIfInBounds b o = w.heap := by
    apply Array.ext_getElem?
    intro i
    rw [Array.getElem?_setIfInBounds]
    by_cases hi : b = i
    · subst hi; have hlt := (Array.getElem?_eq_some_iff.1 h).1; rw [if_pos rfl, if_pos hlt, h]
    · simp [hi]
  rw [this]

theorem splice_step {α : Type} (l : List α) (k : Nat) (v : α) (vs : List α) (h : k + 1 + vs.length ≤ l.length) :
    (l.set k v).take (k + 1) ++ vs ++ (l.set k v).drop (k + 1 + vs.length) = l.take k ++ (v :: vs) ++ l.drop (k + (vs.length + 1)) := by
  have e : l.set k v = l.take k ++ v :: l.drop (k + 1) := by rw [List.set_eq_take_append_cons_drop, if_pos (by omega)]
  have hl : (l.take k).length = k := by simp; omega
  rw [e, List.take_append, List.take_of_length_le (by omega), hl, show k + 1 - k = 1 from by omega]
  rw [List.drop_append, List.drop_of_length_le (l := l.take k) (by omega), hl, show k + 1 + vs.length - k = vs.length + 1 from by omega]
  simp only [List.take_succ_cons, List.take_zero, List.nil_append, List.drop_succ_cons, List.drop_drop]
  rw [show k + 1 + vs.length = k + (vs.length + 1) from by omega]
  simp

theorem run_storeCells {P : Program} {b off : Nat} {e : TypeId} {fr : Nat × Nat} : ∀ (vs : List Value) (i : Nat) (cs : Array Value) (w : World), w.heap[b]? = some (.cells cs e fr) →
    Thaw fr cs.size → off + i + vs.length ≤ cs.size → (∀ u ∈ vs, oc u = true) →
    (storeCells ⟨b, off, none⟩ vs i).run P w = .ok () (setBlk w b (.cells (cs.toList.take (off + i) ++ vs ++ cs.toList.drop (off + i + vs.length)).toArray e fr))
  | [], i, cs, w, hb, _, hl, _ => by
    simp only [storeCells, List.append_nil, List.length_nil, Nat.add_zero, List.take_append_drop, Array.toArray_toList, setBlk_self hb]
    rfl
  | v :: vs, i, cs, w, hb, ht, hl, ho => by
    simp only [List.length_cons] at hl
    have hi : off + i < cs.size := by omega
    have hov := ho v (by simp)
    have hc : w.cell? ⟨b, off + i, none⟩ = some cs[off + i] := by rw [cell_of_heap hb]; simp [hi]
    have hf : w.frozen? ⟨b, off + i, none⟩ = false := by
      have hnt := ht.2 (off + i) hi
      simp only [World.frozen?, hb]
      rcases fr with ⟨lo, hi'⟩
      simp only at hnt ⊢
      by_cases h1 : lo ≤ off + i <;> simp [h1]
      have := fun h2 => hnt ⟨h1, h2⟩
      omega
    have hst : (store ((⟨b, off, none⟩ : Addr).add i) v).run P w = .ok () (setBlk w b (.cells (cs.setIfInBounds (off + i) v) e fr)) := by
      rw [Addr.add_lit]
      show (Sem.store Mode.plain ⟨b, off + i, none⟩ v (.pure ())).run P w = _
      cases v <;> simp [oc] at hov <;> simp [Sem.run, hc, hf, setCell_blk hb]
    have hlt := (Array.getElem?_eq_some_iff.1 hb).1
    have ih := run_storeCells (P := P) (off := off) vs (i + 1) (cs.setIfInBounds (off + i) v) (setBlk w b (.cells (cs.setIfInBounds (off + i) v) e fr)) (setBlk_get hlt) (by simpa using ht) (by simp; omega) (fun u hu => ho u (by simp [hu]))
    unfold storeCells
    rw [Sem.run_bind, hst]
    simp only [Result.andThen_ok]
    rw [ih, setBlk_setBlk]
    rw [Array.toList_setIfInBounds, show off + (i + 1) = off + i + 1 from rfl, splice_step _ _ _ _ (by simpa using by omega)]
    rw [show off + i + (v :: vs).length = off + i + (vs.length + 1) from rfl]

end Go.AM
