/- Proved here: what functions of the program compute, and plain laws. No condition. -/
import Derived.Test.YtldckdbdgbpmpaaInsP
set_option linter.unusedSimpArgs false
set_option linter.unusedVariables false
namespace Go.Proofs.Ytldckdbdgbpmpaa
open Go Go.AM

/-! ## what a stable sort is -/
def Srt (l : List PtT) : Prop := l.Pairwise fun x y => x.1 ≤ y.1
def fk (k : Int) (l : List PtT) : List PtT := l.filter fun x => x.1 == k
/-- of each key the same points in the same order -/
def SameK (l l' : List PtT) : Prop := ∀ k, fk k l = fk k l'
theorem fk_append (k : Int) (a b : List PtT) : fk k (a ++ b) = fk k a ++ fk k b := List.filter_append ..
theorem fk_cons (k : Int) (x : PtT) (b : List PtT) : fk k (x :: b) = fk k [x] ++ fk k b := fk_append k [x] b
theorem fk_nil {k : Int} {l : List PtT} (h : ∀ x ∈ l, x.1 ≠ k) : fk k l = [] := by
  unfold fk
  rw [List.filter_eq_nil_iff]
  intro x hx
  simpa using h x hx
theorem SameK.rfl' (l : List PtT) : SameK l l := fun _ => rfl
theorem SameK.trans {a b c : List PtT} (h : SameK a b) (g : SameK b c) : SameK a c := fun k => (h k).trans (g k)
theorem SameK.symm {a b : List PtT} (h : SameK a b) : SameK b a := fun k => (h k).symm
theorem SameK.app {a b c d : List PtT} (h : SameK a b) (g : SameK c d) : SameK (a ++ c) (b ++ d) := fun k => by rw [fk_append, fk_append, h k, g k]
theorem SameK.mem {a b : List PtT} (h : SameK a b) {x : PtT} (hx : x ∈ a) : x ∈ b := by
  have : x ∈ fk x.1 a := List.mem_filter.2 ⟨hx, by simp⟩
  rw [h x.1] at this
  exact (List.mem_filter.1 this).1
/-- two blocks without a key in common change places -/
theorem SameK.swap {a b : List PtT} (h : ∀ x ∈ a, ∀ y ∈ b, y.1 < x.1) : SameK (a ++ b) (b ++ a) := fun k => by
  rw [fk_append, fk_append]
  by_cases hk : ∃ x ∈ a, x.1 = k
  · obtain ⟨x, hx, rfl⟩ := hk
    rw [fk_nil (l := b) fun y hy => by have := h x hx y hy; omega, List.append_nil, List.nil_append]
  · rw [fk_nil (l := a) fun x hx he => hk ⟨x, hx, he⟩, List.append_nil, List.nil_append]
theorem SameK.len {a b : List PtT} (h : SameK a b) : a.length = b.length := by
  induction a generalizing b with
  | nil =>
    cases b with
    | nil => rfl
    | cons y b => have := h.symm.mem (x := y) (by simp); simp at this
  | cons x a ih =>
    have hx : x ∈ b := h.mem (by simp)
    have hfb : fk x.1 b = x :: fk x.1 a := by rw [← h x.1, fk_cons]; simp [fk]
    obtain ⟨b1, b2, e, hb1⟩ : ∃ b1 b2, b = b1 ++ x :: b2 ∧ fk x.1 b1 = [] := by
      clear ih h hx
      induction b with
      | nil => simp [fk] at hfb
      | cons y b ihb =>
        by_cases hy : y.1 = x.1
        · rw [fk_cons] at hfb
          have e1 : fk x.1 [y] = [y] := by simp [fk, hy]
          rw [e1] at hfb
          simp only [List.cons_append, List.nil_append, List.cons.injEq] at hfb
          exact ⟨[], b, by rw [hfb.1]; rfl, rfl⟩
        · rw [fk_cons] at hfb
          have e1 : fk x.1 [y] = [] := by simp [fk, hy]
          rw [e1, List.nil_append] at hfb
          obtain ⟨b1, b2, e, hb⟩ := ihb hfb
          exact ⟨y :: b1, b2, by rw [e]; rfl, by rw [fk_cons, e1, hb]; rfl⟩
    subst e
    have hab : SameK a (b1 ++ b2) := fun k => by
      have h1 := h k
      rw [fk_cons k x a, fk_append, fk_cons k x b2] at h1
      rw [fk_append]
      by_cases hk : x.1 = k
      · subst hk
        rw [hb1, List.nil_append] at h1 ⊢
        exact List.append_cancel_left h1
      · have e1 : fk k [x] = [] := by simp [fk, hk]
        rw [e1, List.nil_append, List.nil_append] at h1
        exact h1
    have := ih hab
    simp only [List.length_append, List.length_cons] at this ⊢
    omega
/-- a stable sort is one list alone -/
theorem stable_one {a b : List PtT} (ha : Srt a) (hb : Srt b) (h : SameK a b) : a = b := by
  induction a generalizing b with
  | nil =>
    have := h.len
    exact (List.length_eq_zero_iff.1 this.symm).symm
  | cons x a ih =>
    cases b with
    | nil => have := h.len; simp at this
    | cons y b =>
      have hle1 : y.1 ≤ x.1 := by
        have : x ∈ y :: b := h.mem (by simp)
        rcases List.mem_cons.1 this with rfl | hm
        · exact Int.le_refl _
        · exact (List.pairwise_cons.1 hb).1 x hm
      have hle2 : x.1 ≤ y.1 := by
        have : y ∈ x :: a := h.symm.mem (by simp)
        rcases List.mem_cons.1 this with rfl | hm
        · exact Int.le_refl _
        · exact (List.pairwise_cons.1 ha).1 y hm
      have hk : x.1 = y.1 := by omega
      have h1 := h x.1
      rw [fk_cons, fk_cons x.1 y] at h1
      have e1 : fk x.1 [x] = [x] := by simp [fk]
      have e2 : fk x.1 [y] = [y] := by simp [fk, hk]
      rw [e1, e2] at h1
      simp only [List.cons_append, List.nil_append, List.cons.injEq] at h1
      obtain ⟨rfl, h2⟩ := h1
      congr 1
      refine ih (List.pairwise_cons.1 ha).2 (List.pairwise_cons.1 hb).2 fun k => ?_
      have h3 := h k
      rw [fk_cons, fk_cons k x b] at h3
      exact List.append_cancel_left h3

def ltP (x y : PtT) : Bool := decide (x.1 < y.1)
theorem insR_same (p : List PtT) (x : PtT) : SameK (insR ltP p x) (p ++ [x]) := by
  obtain ⟨j, hj, e, h1, _⟩ := insR_split ltP p x
  rw [e]
  have hd : ∀ y ∈ p.drop j, x.1 < y.1 := fun y hy => by
    obtain ⟨m, hm, rfl⟩ := List.getElem_of_mem hy
    rw [List.getElem_drop]
    exact of_decide_eq_true (h1 (j + m) (by omega) (by simp at hm; omega))
  have hs : SameK (p.drop j ++ [x]) ([x] ++ p.drop j) := SameK.swap fun a ha b hb => by simp at hb; subst hb; exact hd a ha
  have := (SameK.rfl' (p.take j)).app hs.symm
  rw [← List.append_assoc (p.take j) (p.drop j), List.take_append_drop] at this
  exact this
theorem isort_same (l : List PtT) : SameK (isort ltP l) l := by
  have key : ∀ (l p : List PtT), SameK (l.foldl (insR ltP) p) (p ++ l) := by
    intro l
    induction l with
    | nil => intro p; simp; exact SameK.rfl' _
    | cons x l ih =>
      intro p
      simp only [List.foldl_cons]
      have h1 := (insR_same p x).app (SameK.rfl' l)
      rw [List.append_assoc] at h1
      exact (ih _).trans h1
  have := key l []
  rwa [List.nil_append] at this
theorem isort_srt (l : List PtT) : Srt (isort ltP l) :=
  isort_sorted ltP (fun x y => x.1 ≤ y.1) (fun a b h => by have := of_decide_eq_false h; omega) (fun a b c h g => by omega) (fun a b h => by have := of_decide_eq_true h; omega) l
def sortP (l : List PtT) : List PtT := isort ltP l
theorem sortP_of {l r : List PtT} (h1 : Srt r) (h2 : SameK r l) : r = sortP l := stable_one h1 (isort_srt l) (h2.trans (isort_same l).symm)
theorem sortP_len (l : List PtT) : (sortP l).length = l.length := isort_length ltP l
theorem isort_cmp (l : List PtT) : isort (fun x y : PtT => decide (cmpN x.1 y.1 < 0)) l = sortP l := by
  unfold sortP
  congr 1
  funext x y
  exact cmpN_lt x.1 y.1
end Go.Proofs.Ytldckdbdgbpmpaa
