/- Proved here: what functions of the program compute, and plain laws. No condition. -/
import Derived.Test.YtkadildabhkocaaText

import Derived.Test.YtkadildabhkocaaCodec
set_option linter.unusedSimpArgs false
set_option linter.unusedVariables false
namespace Go.Proofs.Ytkadildabhkocaa
open Go Go.AM

def TkB (n : Nat) (t : Tk) : Prop := ∀ bs, t = some bs → bs.length ≤ n
theorem TkB.le {n m : Nat} {t : Tk} (h : TkB n t) (hnm : n ≤ m) : TkB m t := fun bs e => Nat.le_trans (h bs e) hnm
theorem numT_some {t : Tk} {r : List UInt8} (h : (numT t).2 = some r) : (numT t).1 < 18446744073709551616 ∧ t = some (leb (numT t).1 ++ r) := by
  rcases t with _ | bs
  · simp [numT] at h
  · rcases hk : takeNum bs with _ | ⟨m, s⟩
    · simp only [numT, hk] at h; cases h
    · simp only [numT, hk, Option.some.injEq] at h ⊢
      subst h
      exact takeNum_some hk
theorem numT_leb (n : Nat) (r : List UInt8) (h : n < 18446744073709551616) : numT (some (leb n ++ r)) = (n, some r) := by
  simp only [numT, takeNum_leb n r h]
theorem textT_some {t : Tk} {r : List UInt8} (h : (textT t).2 = some r) : t = some (lebT (textT t).1 ++ r) := by
  unfold textT at h ⊢
  rcases hk : (numT t).2 with _ | s
  · rw [hk] at h; cases h
  · rw [hk] at h
    simp only at h ⊢
    obtain ⟨h1, h2⟩ := numT_some hk
    split at h
    · cases h
    · rename_i hlt
      simp only [Option.some.injEq] at h
      subst h
      have hl : (s.take (numT t).1).length = (numT t).1 := by rw [List.length_take]; omega
      rw [if_neg hlt]
      simp only
      unfold lebT
      rw [hl, List.append_assoc, List.take_append_drop]
      exact h2
theorem textT_lebT (s r : List UInt8) (h : s.length < 18446744073709551616) : textT (some (lebT s ++ r)) = (s, some r) := by
  have e : numT (some (lebT s ++ r)) = (s.length, some (s ++ r)) := by
    simp only [numT, lebT, List.append_assoc, takeNum_leb s.length (s ++ r) h]
  unfold textT
  rw [e]
  simp
theorem numT_B {n : Nat} (t : Tk) (h : TkB n t) : TkB n (numT t).2 := by
  intro r hr
  obtain ⟨_, h2⟩ := numT_some hr
  have := h _ h2
  rw [List.length_append] at this; omega
theorem textT_B {n : Nat} (t : Tk) (h : TkB n t) : TkB n (textT t).2 ∧ (textT t).1.length ≤ n := by
  constructor
  · intro r hr
    have h2 := textT_some hr
    have := h _ h2
    rw [List.length_append] at this; omega
  · rcases hk : (textT t).2 with _ | r
    · have : (textT t).1 = [] := by
        unfold textT at hk ⊢
        rcases hk2 : (numT t).2 with _ | s
        · rfl
        · rw [hk2] at hk
          simp only at hk ⊢
          split at hk
          · rename_i h'; rw [if_pos h']
          · cases hk
      rw [this]; simp
    · have h2 := textT_some hk
      have := h _ h2
      unfold lebT at this
      simp only [List.length_append] at this; omega

theorem drop_tail (a r : List UInt8) : (a ++ r).drop ((a ++ r).length - r.length) = r := by
  have : (a ++ r).length - r.length = a.length := by simp
  rw [this]; simp
end Go.Proofs.Ytkadildabhkocaa
