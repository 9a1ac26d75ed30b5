/- Proved here: a part of an abstract machine for the walks of this program, and that it tells the truth about the model. No condition. -/
import Derived.Test.YtjaklhbifgbiaaaAmL
set_option linter.unusedSimpArgs false
set_option linter.unusedVariables false
namespace Go.AM
open Go

/-- a block that no row has any more becomes a new row -/
theorem Mem.adopt {B : Base} {β : Nat → Loc} {X : Nat → Prop} {w : World} {rows : Rows} {nx : Nat} (h : Mem B β X w rows nx) (b : Nat) (o : Obj) (l : Loc) (r : Row)
    (hX : X b) (hlt : b < w.heap.size) (hfree : ∀ i, rblk (β i) (rows i) ≠ some b) (hL : b < B.w0.heap.size → B.L b)
    (hr : rowOk (upd rows nx r) (upd β nx l) (setBlk w b o) X l r) (hrb : rblk l r = some b) (hs : ∀ cells, r ≠ .box cells) :
    Mem B (upd β nx l) X (setBlk w b o) (upd rows nx r) (nx + 1) ∧ KeepX w X (setBlk w b o) X := by
  have hold : ∀ c, c ≠ b → (setBlk w b o).heap[c]? = w.heap[c]? := fun c hcb => by
    simp only [setBlk, Array.getElem?_setIfInBounds]; rw [if_neg (Ne.symm hcb)]
  have hk : KeepX w X (setBlk w b o) X := fun c _ hx => ⟨hold c (fun e => hx (e ▸ hX)), hx⟩
  have hC : ∀ i, i < nx → RowC (rows i) (upd rows nx r i) ∧ (upd rows nx r i ≠ .dead → upd β nx l i = β i) := fun i hi => by
    rw [upd_ne _ _ (by omega), upd_ne _ _ (by omega)]; exact ⟨RowC.refl _, fun _ => rfl⟩
  refine ⟨⟨fun i => ?_, fun i j c hi hj => ?_, fun i hi => ?_, fun i cells hc => ?_, h.os, h.tape, h.output, by simpa [setBlk] using h.size, fun c hc hl => ?_, h.xs, fun i c hi hlt0 => ?_, h.fx, Nat.le_succ_of_le h.kln, fun i hi => by have := h.kln; rw [upd_ne _ _ (by omega), upd_ne _ _ (by omega)]; exact h.lk i hi⟩, hk⟩
  · by_cases hi : i = nx
    · subst hi; rw [upd_same, upd_same]; exact hr
    · rw [upd_ne _ _ hi, upd_ne _ _ hi]
      refine rowOk_mono (S := (· < nx)) hk hC (fun cells hc => h.scr i cells hc) (fun c hc => ⟨hold c ?_, fun x => x⟩) (h.ok i)
      intro e; subst e; exact hfree i hc
  · by_cases hi' : i = nx <;> by_cases hj' : j = nx
    · omega
    · subst hi'; rw [upd_same, upd_same, hrb] at hi; rw [upd_ne _ _ hj', upd_ne _ _ hj'] at hj
      cases hi; exact absurd hj (hfree j)
    · subst hj'; rw [upd_same, upd_same, hrb] at hj; rw [upd_ne _ _ hi', upd_ne _ _ hi'] at hi
      cases hj; exact absurd hi (hfree i)
    · rw [upd_ne _ _ hi', upd_ne _ _ hi'] at hi; rw [upd_ne _ _ hj', upd_ne _ _ hj'] at hj
      exact h.inj i j c hi hj
  · rw [upd_ne _ _ (by omega)]; exact h.dead i (by omega)
  · by_cases hi : i = nx
    · subst hi; rw [upd_same] at hc; exact absurd hc (hs cells)
    · rw [upd_ne _ _ hi] at hc; exact Scs.mono (fun _ k => by omega) _ (h.scr i cells hc)
  · rw [hold c ?_]; · exact h.keep c hc hl
    intro e; subst e; exact hl (hL hc)
  · by_cases hi' : i = nx
    · subst hi'; rw [upd_same, upd_same, hrb] at hi; cases hi; exact hL hlt0
    · rw [upd_ne _ _ hi', upd_ne _ _ hi'] at hi; exact h.lent i c hi hlt0

section
variable {P : Program} {w : World} {t t' ty e : TypeId} {ety : Ty}

/-- the type of what is appended: a slice's or a string -/
def SlStr (P : Program) (t : TypeId) : Prop := (∃ e, P.underlying t = some (.slice e)) ∨ P.underlying t = some .string

theorem run_app_fits (hu : P.underlying t = some (.slice e)) (he : tyOf P e = some ety) (hn : SlStr P t') (base : Option Addr) (n cap m : Nat) (x : Value) (news : Array Value)
    (hl : (Builtin.lenOf x).run P w = .ok m w) (hf : (Builtin.firstCells ety.size m x).run P w = .ok news w) (hfit : n + m ≤ cap) :
    (Builtin.append_ #[t, t'] ty #[.slice base n cap, x]).run P w =
      match base with
      | some a => ((storeCells (a.add (n * ety.size)) news.toList).run P w).andThen fun _ w' => .ok (.slice base (n + m) cap) w'
      | none => .ok (.slice base (n + m) cap) w := by
  rcases hn with ⟨e', h1⟩ | h1 <;> cases base <;> simp [Builtin.append_, run_underlying hu, run_underlying h1, tyOf_size he, hl, hf, hfit]

theorem run_app_grow (hu : P.underlying t = some (.slice e)) (he : tyOf P e = some ety) {z : Value} (hz : ety.zero = some z) (hn : SlStr P t') (base : Option Addr) (n cap m : Nat) (x : Value) (olds news : Array Value)
    (hl : (Builtin.lenOf x).run P w = .ok m w) (ho : (Builtin.firstCells ety.size n (.slice base n cap)).run P w.drew = .ok olds w.drew) (hf : (Builtin.firstCells ety.size m x).run P w.drew = .ok news w.drew)
    (hg : cap < n + m) (hb : (n + m) * ety.bytes ≤ 140737488355328) (hmx : n + m ≤ 9223372036854775807) :
    ∃ nc rest, n + m ≤ nc ∧ nc ≤ maxLen ∧ rest.size = (nc - (n + m)) * z.cells.size ∧ (Builtin.append_ #[t, t'] ty #[.slice base n cap, x]).run P w =
      .ok (.slice (some ⟨w.heap.size, 0, none⟩) (n + m) nc) (wpush w.drew (.cells (olds ++ news ++ rest) e)) := by
  obtain ⟨i, ud, q1, q2, q3, q4, q5, q6⟩ := tyOf_spec he
  have hnc : ¬ (n + m ≤ cap) := by omega
  have hfit := growslice_fits hg hb
  have h48' : ¬ (281474976710656 < Builtin.nextslicecap (n + m) cap * ety.bytes) := by omega
  refine ⟨grownCap w (n + m) cap e, Builtin.zeroCells z.cells (grownCap w (n + m) cap e - (n + m)), grownCap_ge _ _ _ _, grownCap_le_maxLen _ _ _ _ (by unfold maxLen; omega), size_zeroCells _ _, ?_⟩
  have hcast : ¬ ((9223372036854775807 : Int) < (n : Int) + (m : Int) ∧ ety.bytes = 0) := by omega
  rcases hn with ⟨e', h1⟩ | h1 <;>
  · simp [Builtin.append_, run_underlying hu, run_underlying h1, tyOf_size he, hl, hnc, q1, ← q5, h48', typeInfo, Question.forced]
    rw [if_neg hcast, ho]
    simp only [Result.andThen_ok, hf, tyOf_zero he hz, run_newRow]
    rfl
end
end Go.AM
