/- Proved here: what functions of the program compute, and plain laws. No condition. -/
import Derived.Test.YthleghjkdggdlaaPut5
import Derived.Test.YthleghjkdggdlaaCmp5
set_option linter.unusedSimpArgs false
set_option linter.unusedVariables false
namespace Go.Proofs.Ythleghjkdggdlaa
open Go Go.AM

/-! ## labels of bytes -/
def decLab (bs : List UInt8) : Option (Lab × List UInt8) :=
  match takeText bs with
  | none => none
  | some (s, r1) => match takeText r1 with
    | none => none
    | some (v, r2) => some ((s, v, ()), r2)
theorem decLab_some (bs : List UInt8) (x : Lab) (r : List UInt8) (h : decLab bs = some (x, r)) : bs = encLab x ++ r := by
  unfold decLab at h
  split at h
  · cases h
  · rename_i s r1 h1
    split at h
    · cases h
    · rename_i v r2 h2
      simp only [Option.some.injEq, Prod.mk.injEq] at h
      obtain ⟨rfl, rfl⟩ := h
      rw [(takeText_some h1).1, (takeText_some h2).1]
      simp [encLab]
theorem decLab_enc (x : Lab) (h1 : x.1.length < 18446744073709551616) (h2 : x.2.1.length < 18446744073709551616) (r : List UInt8) : decLab (encLab x ++ r) = some (x, r) := by
  unfold encLab decLab
  simp only [List.append_assoc, takeText_lebT _ _ h1, takeText_lebT _ _ h2]

def takeLb (b : List UInt8) : Option (List Lab × List UInt8) := takeL decLab rightL 6 b
theorem takeLb_some {b : List UInt8} {l : List Lab} {r : List UInt8} (h : takeLb b = some (l, r)) : rightL l = true ∧ b = putLb l ++ r := takeL_some encLab decLab decLab_some h
theorem takeLb_put (l : List Lab) (r : List UInt8) (h : rightL l = true) : takeLb (putLb l ++ r) = some (l, r) := by
  obtain ⟨h8, _, hall⟩ := rightL_len h
  refine takeL_put encLab decLab r h h8 (by omega) fun x hx r => ?_
  obtain ⟨h1, h2⟩ := hall x hx
  exact decLab_enc x (by omega) (by omega) r
theorem takeLb_none (b : List UInt8) (h : ∀ l r, rightL l = true → b = putLb l ++ r → False) : takeLb b = none := by
  rcases hk : takeLb b with _ | ⟨l, r⟩
  · rfl
  · obtain ⟨h1, h2⟩ := takeLb_some hk
    exact (h l r h1 h2).elim
theorem putLb_inj {l m : List Lab} (h1 : rightL l = true) (h2 : rightL m = true) (h : putLb l = putLb m) : l = m := by
  have e1 := takeLb_put l [] h1
  have e2 := takeLb_put m [] h2
  rw [h, e2] at e1
  simpa using e1.symm

theorem cmpI_zero {x y : List UInt8} (h : cmpI x y = 0) : x = y := by
  rcases lt_tri x y with e | e | e
  · exact e
  · rw [cmpI_one e] at h; cases h
  · rw [cmpI_two e] at h; cases h
theorem cmpLab_zero {x y : Lab} (h : cmpLab x y = 0) : x = y := by
  unfold cmpLab at h
  rcases hq : cmpI x.1 y.1 != 0 with _ | _
  · rw [hq] at h
    simp only [Bool.false_eq_true, if_false] at h
    simp only [bne_eq_false_iff_eq] at hq
    obtain ⟨a, b, ⟨⟩⟩ := x
    obtain ⟨c, d, ⟨⟩⟩ := y
    rw [show a = c from cmpI_zero hq, show b = d from cmpI_zero h]
  · rw [hq] at h
    simp only [if_true] at h
    rw [h] at hq; cases hq
theorem cmpLab_eq (x : Lab) : cmpLab x x = 0 := by unfold cmpLab; rw [cmpI_eq, cmpI_eq]; rfl
theorem cmpL_eq : ∀ l : List Lab, cmpL l l = 0
  | [] => rfl
  | x :: l => by simp only [cmpL, cmpLab_eq]; exact cmpL_eq l
theorem cmpL_zero : ∀ {l m : List Lab}, cmpL l m = 0 → l = m
  | [], [], _ => rfl
  | [], _ :: _, h => by simp [cmpL] at h
  | _ :: _, [], h => by simp [cmpL] at h
  | x :: l, y :: m, h => by
    rcases hq : cmpLab x y != 0 with _ | _
    · simp only [cmpL, hq, Bool.false_eq_true, if_false] at h
      simp only [bne_eq_false_iff_eq] at hq
      rw [cmpLab_zero hq, cmpL_zero h]
    · simp only [cmpL, hq, if_true] at h
      rw [h] at hq; cases hq
theorem key_eq {l m : List Lab} (h1 : rightL l = true) (h2 : rightL m = true) : ((putLb l == putLb m) == (cmpL l m == 0)) = true := by
  rw [beq_iff_eq, Bool.eq_iff_iff, beq_iff_eq, beq_iff_eq]
  constructor
  · intro h; rw [putLb_inj h1 h2 h]; exact cmpL_eq m
  · intro h; rw [cmpL_zero h]
end Go.Proofs.Ythleghjkdggdlaa
