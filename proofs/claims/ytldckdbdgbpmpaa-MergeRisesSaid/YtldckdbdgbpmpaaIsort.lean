/- Proved here: what functions of the program compute, and plain laws. No condition. -/
import Derived.Test.YtldckdbdgbpmpaaBase
set_option linter.unusedSimpArgs false
set_option linter.unusedVariables false
namespace Go.Proofs.Ytldckdbdgbpmpaa
open Go Go.AM

/-! ## one after the other into those that are sorted -/
section
variable {α : Type} (lt : α → α → Bool)
def insR (p : List α) (x : α) : List α :=
  p.take (p.length - (p.reverse.takeWhile (lt x)).length) ++ x :: p.drop (p.length - (p.reverse.takeWhile (lt x)).length)
def isort (l : List α) : List α := l.foldl (insR lt) []
theorem insR_at (p : List α) (x : α) (j : Nat) (hj : j ≤ p.length) (h1 : ∀ m, j ≤ m → (h : m < p.length) → lt x p[m] = true) (h2 : j = 0 ∨ ∃ y, p[j - 1]? = some y ∧ lt x y = false) : insR lt p x = p.take j ++ x :: p.drop j := by
  have key : (p.reverse.takeWhile (lt x)).length = p.length - j := by
    have e : p.reverse = (p.drop j).reverse ++ (p.take j).reverse := by rw [← List.reverse_append, List.take_append_drop]
    rw [e, List.takeWhile_append_of_pos]
    · have : (p.take j).reverse.takeWhile (lt x) = [] := by
        rcases h2 with rfl | ⟨y, hy, hl⟩
        · simp
        · by_cases h0 : j = 0
          · subst h0; simp
          · have hlt : j - 1 < p.length := by omega
            rw [List.getElem?_eq_getElem hlt] at hy
            simp only [Option.some.injEq] at hy
            have : p.take j = p.take (j - 1) ++ [y] := by
              rw [← hy]
              have := List.take_succ_eq_append_getElem hlt
              rwa [show j - 1 + 1 = j from by omega] at this
            rw [this, List.reverse_append]
            simp [List.takeWhile, hl]
      rw [this]; simp
    · intro y hy
      rw [List.mem_reverse] at hy
      obtain ⟨m, hm, rfl⟩ := List.getElem_of_mem hy
      rw [List.getElem_drop]
      exact h1 _ (by omega) (by simp at hm; omega)
  unfold insR
  rw [key, show p.length - (p.length - j) = j from by omega]
theorem insR_perm (p : List α) (x : α) : (insR lt p x).Perm (x :: p) := by
  unfold insR
  generalize p.length - _ = k
  have := List.perm_middle (a := x) (l₁ := p.take k) (l₂ := p.drop k)
  rwa [List.take_append_drop] at this
theorem insR_length (p : List α) (x : α) : (insR lt p x).length = p.length + 1 := by
  have := (insR_perm lt p x).length_eq
  simpa using this
theorem isort_snoc (l : List α) (x : α) : isort lt (l ++ [x]) = insR lt (isort lt l) x := by
  unfold isort; rw [List.foldl_append]; rfl
theorem isort_perm (l : List α) : (isort lt l).Perm l := by
  have key : ∀ (l p : List α), (l.foldl (insR lt) p).Perm (p ++ l) := by
    intro l
    induction l with
    | nil => intro p; simp
    | cons x l ih =>
      intro p
      simp only [List.foldl_cons]
      refine (ih _).trans ?_
      have h1 := (insR_perm lt p x).append_right l
      refine h1.trans ?_
      exact (List.perm_middle (a := x) (l₁ := p) (l₂ := l)).symm
  have := key l []
  rw [List.nil_append] at this
  exact this
theorem isort_length (l : List α) : (isort lt l).length = l.length := (isort_perm lt l).length_eq

/-- a place to insert at -/
theorem insR_split (p : List α) (x : α) : ∃ j, j ≤ p.length ∧ insR lt p x = p.take j ++ x :: p.drop j ∧ (∀ m, j ≤ m → (h : m < p.length) → lt x p[m] = true) ∧ (j = 0 ∨ ∃ y, p[j - 1]? = some y ∧ lt x y = false) := by
  have key : ∀ d, d ≤ p.length → (∀ m, p.length - d ≤ m → (h : m < p.length) → lt x p[m] = true) → ∃ j, j ≤ p.length ∧ (∀ m, j ≤ m → (h : m < p.length) → lt x p[m] = true) ∧ (j = 0 ∨ ∃ y, p[j - 1]? = some y ∧ lt x y = false) := by
    intro d
    induction h : p.length - d generalizing d with
    | zero => intro _ hh; exact ⟨0, by omega, hh, .inl rfl⟩
    | succ k ih =>
      intro hd hh
      have hk : k < p.length := by omega
      rcases hb : lt x p[k] with _ | _
      · exact ⟨k + 1, by omega, hh, .inr ⟨p[k], by simp [hk], hb⟩⟩
      · refine ih (d + 1) (by omega) (by omega) fun m hm h' => ?_
        rcases Nat.eq_or_lt_of_le hm with rfl | hlt
        · exact hb
        · exact hh m (by omega) h'
  obtain ⟨j, h0, h1, h2⟩ := key 0 (by omega) (fun m hm h => by omega)
  exact ⟨j, h0, insR_at lt p x j h0 h1 h2, h1, h2⟩

variable (le : α → α → Prop) (hle : ∀ a b, lt a b = false → le b a) (htr : ∀ a b c, le a b → le b c → le a c) (hlt : ∀ a b, lt a b = true → le a b)
include hle htr hlt
theorem insR_sorted (p : List α) (x : α) (hp : p.Pairwise le) : (insR lt p x).Pairwise le := by
  obtain ⟨j, hj, e, h1, h2⟩ := insR_split lt p x
  have hpp : (p.take j ++ p.drop j).Pairwise le := by rw [List.take_append_drop]; exact hp
  rw [List.pairwise_append] at hpp
  obtain ⟨q1, q2, q3⟩ := hpp
  rw [e, List.pairwise_append]
  have hx2 : ∀ b ∈ p.drop j, le x b := by
    intro b hb
    obtain ⟨m, hm, rfl⟩ := List.getElem_of_mem hb
    rw [List.getElem_drop]
    exact hlt _ _ (h1 _ (by omega) (by simp at hm; omega))
  have hx1 : ∀ a ∈ p.take j, le a x := by
    rcases h2 with rfl | ⟨y, hy, hl⟩
    · simp
    · intro a ha
      have hyx : le y x := hle _ _ hl
      by_cases h0 : j = 0
      · subst h0; simp at ha
      · have hlt' : j - 1 < p.length := by omega
        rw [List.getElem?_eq_getElem hlt'] at hy
        simp only [Option.some.injEq] at hy
        have e2 : p.take j = p.take (j - 1) ++ [y] := by
          rw [← hy]
          have := List.take_succ_eq_append_getElem hlt'
          rwa [show j - 1 + 1 = j from by omega] at this
        rw [e2] at ha q1
        rcases List.mem_append.1 ha with ha | ha
        · rw [List.pairwise_append] at q1
          exact htr _ _ _ (q1.2.2 a ha y (by simp)) hyx
        · simp at ha; subst ha; exact hyx
  refine ⟨q1, List.pairwise_cons.2 ⟨hx2, q2⟩, fun a ha b hb => ?_⟩
  rcases List.mem_cons.1 hb with rfl | hb
  · exact hx1 a ha
  · exact q3 a ha b hb
theorem isort_sorted (l : List α) : (isort lt l).Pairwise le := by
  have key : ∀ (l p : List α), p.Pairwise le → (l.foldl (insR lt) p).Pairwise le := by
    intro l
    induction l with
    | nil => intro p h; exact h
    | cons x l ih => intro p h; exact ih _ (insR_sorted lt le hle htr hlt p x h)
  exact key l [] List.Pairwise.nil
end
end Go.Proofs.Ytldckdbdgbpmpaa
