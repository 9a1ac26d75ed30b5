/- Proved here: what functions of the program compute, and plain laws. No condition. -/
import Derived.Test.YtkadildabhkocaaBase
set_option linter.unusedSimpArgs false
set_option linter.unusedVariables false
namespace Go.Proofs.Ytkadildabhkocaa
open Go Go.AM

/-! ## the order of texts -/
abbrev lt (x y : List UInt8) : Bool := Op.bytesLess x y
theorem lt_cons (a b : UInt8) (x y : List UInt8) : lt (a :: x) (b :: y) = (decide (a < b) || (a == b && lt x y)) := rfl
theorem lt_irrefl : ∀ x, lt x x = false
  | [] => rfl
  | a :: x => by
    have := lt_irrefl x
    rw [lt_cons, this]
    simp
theorem lt_tri : ∀ x y, x = y ∨ lt x y = true ∨ lt y x = true
  | [], [] => .inl rfl
  | [], b :: y => .inr (.inl rfl)
  | a :: x, [] => .inr (.inr rfl)
  | a :: x, b :: y => by
    have ih := lt_tri x y
    rw [lt_cons, lt_cons]
    rcases Nat.lt_trichotomy a.toNat b.toNat with h | h | h
    · right; left
      have : a < b := UInt8.lt_iff_toNat_lt.2 h
      simp [this]
    · have hab : a = b := UInt8.toNat_inj.1 h
      subst hab
      rcases ih with rfl | h' | h'
      · left; rfl
      · right; left; simp [h']
      · right; right; simp [h']
    · right; right
      have : b < a := UInt8.lt_iff_toNat_lt.2 h
      simp [this]
theorem lt_trans : ∀ x y z, lt x y = true → lt y z = true → lt x z = true
  | _, [], z, h, _ => by simp [lt, Op.bytesLess] at h
  | _, _ :: _, [], _, h => by simp [lt, Op.bytesLess] at h
  | [], _ :: _, c :: z, _, _ => rfl
  | a :: x, b :: y, c :: z, h1, h2 => by
    have ih := lt_trans x y z
    rw [lt_cons] at h1 h2 ⊢
    simp only [Bool.or_eq_true, decide_eq_true_eq, Bool.and_eq_true, beq_iff_eq] at *
    rcases h1 with h1 | ⟨rfl, h1⟩
    · rcases h2 with h2 | ⟨rfl, h2⟩
      · left; rw [UInt8.lt_iff_toNat_lt] at *; omega
      · left; exact h1
    · rcases h2 with h2 | ⟨rfl, h2⟩
      · left; exact h2
      · right; exact ⟨rfl, ih h1 h2⟩
theorem lt_asymm {x y : List UInt8} (h : lt x y = true) : lt y x = false := by
  rcases h2 : lt y x with _ | _
  · rfl
  · have := lt_trans x y x h h2
    rw [lt_irrefl] at this; cases this
theorem lt_ne {x y : List UInt8} (h : lt x y = true) : (x == y) = false := by
  rw [beq_eq_false_iff_ne]
  intro e; subst e; rw [lt_irrefl] at h; cases h
theorem not_le (x y : List UInt8) : (lt x y || x == y) = !(lt y x) := by
  rcases lt_tri x y with rfl | h | h
  · simp [lt_irrefl]
  · rw [h, lt_asymm h]; rfl
  · rw [h, lt_asymm h, Bool.false_or, Bool.not_true]
    have := lt_ne h
    rw [beq_eq_false_iff_ne] at this ⊢
    exact fun e => this e.symm
theorem lt_nil (x : List UInt8) (h : 1 ≤ x.length) : lt [] x = true := by
  cases x with
  | nil => simp at h
  | cons a x => rfl
end Go.Proofs.Ytkadildabhkocaa
