/- Proved here: a part of an abstract machine for the walks of this program, and that it tells the truth about the model. No condition. -/
import Derived.Test.YtjaklhbifgbiaaaAmB
set_option linter.unusedSimpArgs false
set_option linter.unusedVariables false
namespace Go.AM
open Go

def upd {α : Type} (f : Nat → α) (i : Nat) (x : α) : Nat → α := fun j => if j = i then x else f j
theorem upd_same {α : Type} (f : Nat → α) (i : Nat) (x : α) : upd f i x i = x := by simp [upd]
theorem upd_ne {α : Type} (f : Nat → α) {i j : Nat} (x : α) (h : j ≠ i) : upd f i x j = f j := by simp [upd, h]

theorem rowOk_mono {rows rows' : Rows} {β β' : Nat → Loc} {w w' : World} {X X' : Nat → Prop} {S : Nat → Prop} {l : Loc} {r : Row} (hk : KeepX w X w' X')
    (hr : ∀ i, S i → RowC (rows i) (rows' i) ∧ (rows' i ≠ .dead → β' i = β i)) (hs : ∀ cells, r = .box cells → Scs S cells)
    (hb : ∀ b, rblk l r = some b → w'.heap[b]? = w.heap[b]? ∧ (X b → X' b)) (h : rowOk rows β w X l r) : rowOk rows' β' w' X' l r := by
  cases r with
  | dead => trivial
  | box cells =>
    obtain ⟨b, cs, e, fr, h1, h2, h3, h4, h5, h6⟩ := h
    obtain ⟨k1, k2⟩ := hb b (by simp [rblk, h1])
    exact ⟨b, cs, e, fr, h1, k2 h2, k1.trans h3, h4, repPs_mono hk hr cells _ (hs cells rfl) h5, h6⟩
  | own sz el =>
    obtain ⟨h1, h2, h3⟩ := h
    refine ⟨h1, h2, ?_⟩
    rcases h3 with h3 | ⟨b, cs, e, fr, h3, h4, h5, h6, h7, h8, h9⟩
    · exact .inl h3
    · obtain ⟨k1, k2⟩ := hb b (by simp [rblk, h4]; omega)
      exact .inr ⟨b, cs, e, fr, h3, h4, k2 h5, k1.trans h6, h7, h8, repss_mono hk sz el _ h9⟩
  | iter s pos =>
    obtain ⟨b, h1, h2, h3⟩ := h
    obtain ⟨k1, k2⟩ := hb b (by simp [rblk, h1])
    exact ⟨b, h1, k2 h2, k1.trans h3⟩

theorem rowOk_blk {rows : Rows} {β : Nat → Loc} {w : World} {X : Nat → Prop} {l : Loc} {r : Row} (h : rowOk rows β w X l r) {b : Nat} (hb : rblk l r = some b) :
    b < w.heap.size ∧ X b := by
  cases r with
  | dead => simp [rblk] at hb
  | box cells =>
    obtain ⟨b', cs, e, fr, h1, h2, h3, _⟩ := h
    simp [rblk, h1] at hb; subst hb
    exact ⟨(Array.getElem?_eq_some_iff.1 h3).1, h2⟩
  | own sz el =>
    obtain ⟨h1, h2, h3⟩ := h
    rcases h3 with ⟨h3, _⟩ | ⟨b', cs, e, fr, h3, h4, h5, h6, _⟩
    · simp [rblk, h3] at hb
    · simp [rblk, h4, Nat.ne_of_gt h3] at hb; subst hb
      exact ⟨(Array.getElem?_eq_some_iff.1 h6).1, h5⟩
  | iter s pos =>
    obtain ⟨b', h1, h2, h3⟩ := h
    simp [rblk, h1] at hb; subst hb
    exact ⟨(Array.getElem?_eq_some_iff.1 h3).1, h2⟩

/-- a draw: nothing turns -/
theorem Mem.drew {B : Base} {β : Nat → Loc} {X : Nat → Prop} {w w' : World} {rows : Rows} {nx : Nat} (h : Mem B β X w rows nx)
    (hh : w'.heap = w.heap) (h1 : w'.os = w.os) (h2 : w'.tape = w.tape) (h3 : w'.output = w.output) : Mem B β X w' rows nx := by
  have hk : KeepX w X w' X := fun b _ hx => ⟨by rw [hh], hx⟩
  refine ⟨fun i => ?_, h.inj, h.dead, h.scr, h1.trans h.os, h2.trans h.tape, h3.trans h.output, by rw [hh]; exact h.size, fun b hb hl => by rw [hh]; exact h.keep b hb hl, h.xs, h.lent, h.fx, h.kln, h.lk⟩
  exact rowOk_mono (S := (· < nx)) hk (fun i _ => ⟨RowC.refl _, fun _ => rfl⟩) (fun cells hc => h.scr i cells hc) (fun b _ => ⟨by rw [hh], fun x => x⟩) (h.ok i)

theorem KeepX.heap {w w' : World} {X : Nat → Prop} (hh : w'.heap = w.heap) : KeepX w X w' X := fun b _ hx => ⟨by rw [hh], hx⟩

theorem heap_push_old (w : World) (o : Obj) {b : Nat} (h : b < w.heap.size) : (w.heap.push o)[b]? = w.heap[b]? := by
  rw [Array.getElem?_push, if_neg (by omega)]

theorem KeepX.alloc {w w' : World} {X : Nat → Prop} {o : Obj} (hh : w'.heap = w.heap.push o) : KeepX w X w' (fun b => X b ∨ b = w.heap.size) :=
  fun b hb hx => ⟨by rw [hh, heap_push_old w o hb], by simp [hx]; omega⟩

/-- a new block is a new row -/
theorem Mem.alloc {B : Base} {β : Nat → Loc} {X : Nat → Prop} {w w' : World} {rows : Rows} {nx : Nat} (h : Mem B β X w rows nx) (o : Obj) (l : Loc) (r : Row)
    (hh : w'.heap = w.heap.push o) (h1 : w'.os = w.os) (h2 : w'.tape = w.tape) (h3 : w'.output = w.output)
    (hr : rowOk (upd rows nx r) (upd β nx l) w' (fun b => X b ∨ b = w.heap.size) l r) (hb : ∀ b, rblk l r = some b → b = w.heap.size)
    (hs : ∀ cells, r = .box cells → Scs (· < nx) cells) :
    Mem B (upd β nx l) (fun b => X b ∨ b = w.heap.size) w' (upd rows nx r) (nx + 1) := by
  have hk := KeepX.alloc (X := X) hh
  have hC : ∀ i, i < nx → RowC (rows i) (upd rows nx r i) ∧ (upd rows nx r i ≠ .dead → upd β nx l i = β i) := fun i hi => by
    rw [upd_ne _ _ (by omega), upd_ne _ _ (by omega)]; exact ⟨RowC.refl _, fun _ => rfl⟩
  have hlt : ∀ i b, rblk (β i) (rows i) = some b → b < w.heap.size := fun i b hb => (rowOk_blk (h.ok i) hb).1
  refine ⟨fun i => ?_, fun i j b hi hj => ?_, fun i hi => ?_, fun i cells hc => ?_, h1.trans h.os, h2.trans h.tape, h3.trans h.output, ?_, fun b hb hl => ?_, fun b hb hx => ?_, fun i b hi hlt0 => ?_, fun b h0 h1 h2 => .inl (h.fx b h0 h1 h2), Nat.le_succ_of_le h.kln, fun i hi => by have := h.kln; rw [upd_ne _ _ (by omega), upd_ne _ _ (by omega)]; exact h.lk i hi⟩
  · by_cases hi : i = nx
    · subst hi; rw [upd_same, upd_same]; exact hr
    · rw [upd_ne _ _ hi, upd_ne _ _ hi]
      refine rowOk_mono (S := (· < nx)) hk hC (fun cells hc => h.scr i cells hc) (fun b hb => ⟨?_, fun x => .inl x⟩) (h.ok i)
      rw [hh, heap_push_old w o (hlt i b hb)]
  · by_cases hi' : i = nx <;> by_cases hj' : j = nx
    · omega
    · subst hi'; rw [upd_same, upd_same] at hi; rw [upd_ne _ _ hj', upd_ne _ _ hj'] at hj
      have := hb b hi; have := hlt j b hj; omega
    · subst hj'; rw [upd_same, upd_same] at hj; rw [upd_ne _ _ hi', upd_ne _ _ hi'] at hi
      have := hb b hj; have := hlt i b hi; omega
    · rw [upd_ne _ _ hi', upd_ne _ _ hi'] at hi; rw [upd_ne _ _ hj', upd_ne _ _ hj'] at hj
      exact h.inj i j b hi hj
  · rw [upd_ne _ _ (by omega)]; exact h.dead i (by omega)
  · by_cases hi : i = nx
    · subst hi; rw [upd_same] at hc; exact Scs.mono (fun _ k => by omega) _ (hs cells hc)
    · rw [upd_ne _ _ hi] at hc; exact Scs.mono (fun _ k => by omega) _ (h.scr i cells hc)
  · rw [hh]; have := h.size; simp; omega
  · rw [hh, heap_push_old w o (by have := h.size; omega)]; exact h.keep b hb hl
  · rcases hx with hx | hx
    · exact h.xs b hb hx
    · have := h.size; omega
  · by_cases hi' : i = nx
    · subst hi'; rw [upd_same, upd_same] at hi; have := hb b hi; have := h.size; omega
    · rw [upd_ne _ _ hi', upd_ne _ _ hi'] at hi; exact h.lent i b hi hlt0

/-- a new row without a block -/
theorem Mem.new0 {B : Base} {β : Nat → Loc} {X : Nat → Prop} {w : World} {rows : Rows} {nx : Nat} (h : Mem B β X w rows nx) (a : Option Addr) (sz : Nat) :
    Mem B (upd β nx ⟨a, 0⟩) X w (upd rows nx (.own sz [])) (nx + 1) := by
  have hk := KeepX.refl w X
  have hC : ∀ i, i < nx → RowC (rows i) (upd rows nx (.own sz []) i) ∧ (upd rows nx (.own sz []) i ≠ .dead → upd β nx ⟨a, 0⟩ i = β i) := fun i hi => by
    rw [upd_ne _ _ (by omega), upd_ne _ _ (by omega)]; exact ⟨RowC.refl _, fun _ => rfl⟩
  refine ⟨fun i => ?_, fun i j b hi hj => ?_, fun i hi => ?_, fun i cells hc => ?_, h.os, h.tape, h.output, h.size, h.keep, h.xs, fun i b hi hlt0 => ?_, h.fx, Nat.le_succ_of_le h.kln, fun i hi => by have := h.kln; rw [upd_ne _ _ (by omega), upd_ne _ _ (by omega)]; exact h.lk i hi⟩
  · by_cases hi : i = nx
    · subst hi; rw [upd_same, upd_same]; exact ⟨by simp, by simp, .inl ⟨rfl, rfl⟩⟩
    · rw [upd_ne _ _ hi, upd_ne _ _ hi]
      exact rowOk_mono (S := (· < nx)) hk hC (fun cells hc => h.scr i cells hc) (fun b hb => ⟨rfl, fun x => x⟩) (h.ok i)
  · by_cases hi' : i = nx
    · subst hi'; rw [upd_same, upd_same] at hi; simp [rblk] at hi
    · by_cases hj' : j = nx
      · subst hj'; rw [upd_same, upd_same] at hj; simp [rblk] at hj
      · rw [upd_ne _ _ hi', upd_ne _ _ hi'] at hi; rw [upd_ne _ _ hj', upd_ne _ _ hj'] at hj
        exact h.inj i j b hi hj
  · rw [upd_ne _ _ (by omega)]; exact h.dead i (by omega)
  · by_cases hi : i = nx
    · subst hi; rw [upd_same] at hc; cases hc
    · rw [upd_ne _ _ hi] at hc; exact Scs.mono (fun _ k => by omega) _ (h.scr i cells hc)
  · by_cases hi' : i = nx
    · subst hi'; rw [upd_same, upd_same] at hi; simp [rblk] at hi
    · rw [upd_ne _ _ hi', upd_ne _ _ hi'] at hi; exact h.lent i b hi hlt0

/-- a row is forgotten -/
theorem Mem.kill {B : Base} {β : Nat → Loc} {X : Nat → Prop} {w : World} {rows : Rows} {nx : Nat} (h : Mem B β X w rows nx) (k : Nat) :
    Mem B β X w (upd rows k .dead) nx := by
  have hk := KeepX.refl w X
  have hC : ∀ i, i < nx → RowC (rows i) (upd rows k .dead i) ∧ (upd rows k .dead i ≠ .dead → β i = β i) := fun i hi => by
    refine ⟨?_, fun _ => rfl⟩
    by_cases hi : i = k
    · subst hi; rw [upd_same]; cases rows i <;> simp [RowC]
    · rw [upd_ne _ _ hi]; exact RowC.refl _
  have hbl : ∀ i b, rblk (β i) (upd rows k .dead i) = some b → rblk (β i) (rows i) = some b := fun i b hb => by
    by_cases hi : i = k
    · subst hi; rw [upd_same] at hb; simp [rblk] at hb
    · rwa [upd_ne _ _ hi] at hb
  refine ⟨fun i => ?_, fun i j b hi hj => h.inj i j b (hbl i b hi) (hbl j b hj), fun i hi => ?_, fun i cells hc => ?_, h.os, h.tape, h.output, h.size, h.keep, h.xs, fun i b hi hlt0 => h.lent i b (hbl i b hi) hlt0, h.fx, h.kln, fun i hi => ⟨(h.lk i hi).1.trans (hC i (by have := h.kln; omega)).1, fun hd => (h.lk i hi).2 fun h0 => hd (by have := (hC i (by have := h.kln; omega)).1; rw [h0] at this; cases hu : upd rows k .dead i <;> rw [hu] at this <;> simp [RowC] at this ⊢)⟩⟩
  · by_cases hi : i = k
    · subst hi; rw [upd_same]; trivial
    · rw [upd_ne _ _ hi]
      exact rowOk_mono (S := (· < nx)) hk hC (fun cells hc => h.scr i cells hc) (fun b hb => ⟨rfl, fun x => x⟩) (h.ok i)
  · by_cases hi' : i = k
    · subst hi'; rw [upd_same]
    · rw [upd_ne _ _ hi']; exact h.dead i hi
  · by_cases hi : i = k
    · subst hi; rw [upd_same] at hc; cases hc
    · rw [upd_ne _ _ hi] at hc; exact h.scr i cells hc

/-- the block of a row is written -/
theorem Mem.write {B : Base} {β : Nat → Loc} {X : Nat → Prop} {w w' : World} {rows : Rows} {nx : Nat} (h : Mem B β X w rows nx) (k b : Nat) (o : Obj) (r : Row)
    (hb : rblk (β k) (rows k) = some b) (hh : w'.heap = w.heap.setIfInBounds b o) (h1 : w'.os = w.os) (h2 : w'.tape = w.tape) (h3 : w'.output = w.output)
    (hc : RowC (rows k) r) (hrb : ∀ c, rblk (β k) r = some c → c = b)
    (hr : (∀ i, i < nx → RowC (rows i) (upd rows k r i) ∧ (upd rows k r i ≠ .dead → β i = β i)) → KeepX w X w' X → rowOk (upd rows k r) β w' X (β k) r)
    (hs : ∀ cells, r = .box cells → Scs (· < nx) cells) :
    Mem B β X w' (upd rows k r) nx ∧ KeepX w X w' X ∧ (∀ i, i < nx → RowC (rows i) (upd rows k r i) ∧ (upd rows k r i ≠ .dead → β i = β i)) := by
  have hbX := rowOk_blk (h.ok k) hb
  have hold : ∀ c, c ≠ b → w'.heap[c]? = w.heap[c]? := fun c hcb => by
    rw [hh, Array.getElem?_setIfInBounds]; rw [if_neg (Ne.symm hcb)]
  have hk : KeepX w X w' X := fun c _ hx => ⟨hold c (fun e => hx (e ▸ hbX.2)), hx⟩
  have hC : ∀ i, i < nx → RowC (rows i) (upd rows k r i) ∧ (upd rows k r i ≠ .dead → β i = β i) := fun i hi => by
    refine ⟨?_, fun _ => rfl⟩
    by_cases hi : i = k
    · subst hi; rw [upd_same]; exact hc
    · rw [upd_ne _ _ hi]; exact RowC.refl _
  have hbl : ∀ i c, rblk (β i) (upd rows k r i) = some c → rblk (β i) (rows i) = some c := fun i c hcc => by
    by_cases hi : i = k
    · subst hi; rw [upd_same] at hcc; rw [hrb c hcc]; exact hb
    · rwa [upd_ne _ _ hi] at hcc
  have hkn : k < nx := by
    rcases Nat.lt_or_ge k nx with hlt | hge
    · exact hlt
    · rw [h.dead k hge] at hb; simp [rblk] at hb
  refine ⟨⟨fun i => ?_, fun i j c hi hj => h.inj i j c (hbl i c hi) (hbl j c hj), fun i hi => ?_, fun i cells hcc => ?_, h1.trans h.os, h2.trans h.tape, h3.trans h.output, by rw [hh]; simpa using h.size, fun c hcc hl => ?_, h.xs, fun i c hi hlt0 => h.lent i c (hbl i c hi) hlt0, h.fx, h.kln, fun i hi => ⟨(h.lk i hi).1.trans (hC i (by have := h.kln; omega)).1, fun hd => (h.lk i hi).2 fun h0 => hd (by have := (hC i (by have := h.kln; omega)).1; rw [h0] at this; cases hu : upd rows k r i <;> rw [hu] at this <;> simp [RowC] at this ⊢)⟩⟩, hk, hC⟩
  · by_cases hi : i = k
    · subst hi; rw [upd_same]; exact hr hC hk
    · rw [upd_ne _ _ hi]
      refine rowOk_mono (S := (· < nx)) hk hC (fun cells hcc => h.scr i cells hcc) (fun c hcc => ⟨hold c ?_, fun x => x⟩) (h.ok i)
      intro e; subst e; exact hi (h.inj i k c hcc hb)
  · rw [upd_ne _ _ (by omega)]; exact h.dead i hi
  · by_cases hi : i = k
    · subst hi; rw [upd_same] at hcc; exact hs cells hcc
    · rw [upd_ne _ _ hi] at hcc; exact h.scr i cells hcc
  · rw [hold c ?_]; · exact h.keep c hcc hl
    intro e; subst e; exact hl (h.lent k c hb hcc)
end Go.AM
