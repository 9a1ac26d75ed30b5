/- Proved here: what functions of the program compute, and plain laws. No condition. -/
import Derived.Test.YthleghjkdggdlaaDec5
set_option linter.unusedSimpArgs false
set_option linter.unusedVariables false
namespace Go.Proofs.Ythleghjkdggdlaa
open Go Go.AM

theorem lessL_iff (x y : Lab) : lessL x y = true ↔ lt x.1 y.1 = true ∨ (x.1 = y.1 ∧ lt x.2.1 y.2.1 = true) := by
  unfold lessL; simp
theorem lessL_irrefl (x : Lab) : lessL x x = false := by
  rcases h : lessL x x with _ | _
  · rfl
  · rcases (lessL_iff x x).1 h with h | ⟨_, h⟩ <;> (rw [lt_irrefl] at h; cases h)
theorem lessL_trans {x y z : Lab} (h1 : lessL x y = true) (h2 : lessL y z = true) : lessL x z = true := by
  rw [lessL_iff] at *
  rcases h1 with h1 | ⟨e1, h1⟩
  · rcases h2 with h2 | ⟨e2, h2⟩
    · exact .inl (lt_trans _ _ _ h1 h2)
    · left; rw [← e2]; exact h1
  · rcases h2 with h2 | ⟨e2, h2⟩
    · left; rw [e1]; exact h2
    · exact .inr ⟨e1.trans e2, lt_trans _ _ _ h1 h2⟩
theorem lessL_asymm {x y : Lab} (h : lessL x y = true) : lessL y x = false := by
  rcases h2 : lessL y x with _ | _
  · rfl
  · have := lessL_trans h h2
    rw [lessL_irrefl] at this; cases this
theorem cmpLab_three (x y : Lab) : (lessL x y = true ∧ cmpLab x y = -1) ∨ (x = y ∧ cmpLab x y = 0) ∨ (lessL y x = true ∧ cmpLab x y = 1) := by
  have h := cmpLab_less x y
  rcases h1 : lessL x y with _ | _
  · rcases h2 : lessL y x with _ | _
    · rw [h1, h2] at h
      exact .inr (.inl ⟨cmpLab_zero h, h⟩)
    · rw [h1, h2] at h
      exact .inr (.inr ⟨rfl, h⟩)
  · rw [h1] at h
    exact .inl ⟨rfl, h⟩
theorem cmpLab_neg (x y : Lab) : cmpLab y x = - cmpLab x y := by
  rcases cmpLab_three x y with ⟨h, e⟩ | ⟨rfl, e⟩ | ⟨h, e⟩
  · rw [e, cmpLab_less, h, lessL_asymm h]; rfl
  · rw [e]; rfl
  · rw [e, cmpLab_less, h]; rfl
theorem cmpL_neg : ∀ l m : List Lab, cmpL m l = - cmpL l m
  | [], [] => rfl
  | [], _ :: _ => rfl
  | _ :: _, [] => rfl
  | x :: l, y :: m => by
    have ih := cmpL_neg l m
    have hn := cmpLab_neg x y
    rcases cmpLab_three x y with ⟨_, e⟩ | ⟨_, e⟩ | ⟨_, e⟩
    · rw [e] at hn; simp only [cmpL, hn, e]; rfl
    · rw [e] at hn; simp only [cmpL, hn, e]; exact ih
    · rw [e] at hn; simp only [cmpL, hn, e]; rfl
theorem cmpL_three : ∀ l m : List Lab, cmpL l m = -1 ∨ cmpL l m = 0 ∨ cmpL l m = 1
  | [], [] => .inr (.inl rfl)
  | [], _ :: _ => .inl rfl
  | _ :: _, [] => .inr (.inr rfl)
  | x :: l, y :: m => by
    rcases cmpLab_three x y with ⟨_, e⟩ | ⟨_, e⟩ | ⟨_, e⟩
    · left; simp only [cmpL, e]; rfl
    · simp only [cmpL, e]; exact cmpL_three l m
    · right; right; simp only [cmpL, e]; rfl
theorem cmpL_c1 {x y : Lab} (l m : List Lab) (h : cmpLab x y = 1) : cmpL (x :: l) (y :: m) = 1 := by simp only [cmpL, h]; rfl
theorem cmpL_cm {x y : Lab} (l m : List Lab) (h : cmpLab x y = -1) : cmpL (x :: l) (y :: m) = -1 := by simp only [cmpL, h]; rfl
theorem cmpL_c0 {x y : Lab} (l m : List Lab) (h : cmpLab x y = 0) : cmpL (x :: l) (y :: m) = cmpL l m := by simp only [cmpL, h]; rfl
theorem cmpL_trans : ∀ l m k : List Lab, cmpL l m ≤ 0 → cmpL m k ≤ 0 → cmpL l k ≤ 0
  | [], [], k, _, h => h
  | [], _ :: _, [], _, _ => by simp [cmpL]
  | [], _ :: _, _ :: _, _, _ => by simp [cmpL]
  | _ :: _, [], _, h, _ => by simp [cmpL] at h
  | _ :: _, _ :: _, [], _, h => by simp [cmpL] at h
  | x :: l, y :: m, z :: k, h1, h2 => by
    have ih := cmpL_trans l m k
    rcases cmpLab_three x y with ⟨q1, e1⟩ | ⟨rfl, e1⟩ | ⟨q1, e1⟩
    · have hxz : lessL x z = true := by
        rcases cmpLab_three y z with ⟨q2, e2⟩ | ⟨rfl, e2⟩ | ⟨q2, e2⟩
        · exact lessL_trans q1 q2
        · exact q1
        · rw [cmpL_c1 m k e2] at h2; omega
      have e3 : cmpLab x z = -1 := by rw [cmpLab_less, hxz]; rfl
      rw [cmpL_cm l k e3]; omega
    · rw [cmpL_c0 l m e1] at h1
      rcases cmpLab_three x z with ⟨q2, e2⟩ | ⟨rfl, e2⟩ | ⟨q2, e2⟩
      · rw [cmpL_cm l k e2]; omega
      · rw [cmpL_c0 m k e2] at h2
        rw [cmpL_c0 l k e2]
        exact ih h1 h2
      · rw [cmpL_c1 m k e2] at h2; omega
    · rw [cmpL_c1 l m e1] at h1; omega
theorem same_cmp (l m : List Lab) : ((cmpL l m == 0) == decide (l = m)) = true := by
  rw [beq_iff_eq, Bool.eq_iff_iff, beq_iff_eq, decide_eq_true_eq]
  exact ⟨cmpL_zero, fun h => by rw [h]; exact cmpL_eq m⟩
end Go.Proofs.Ythleghjkdggdlaa
