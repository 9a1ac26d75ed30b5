/- Proved here: what functions of the program compute, and plain laws. No condition. -/
import Derived.Test.YtkadildabhkocaaPut5
set_option linter.unusedSimpArgs false
set_option linter.unusedVariables false
namespace Go.Proofs.Ytkadildabhkocaa
open Go Go.AM

/-! ## labels of bytes -/
def decLab (bs : List UInt8) : Option (Lab × List UInt8) :=
  match takeText bs with
  | none => none
  | some (s, r1) => match takeText r1 with
    | none => none
    | some (v, r2) => some ((s, v, ()), r2)
theorem decLab_some (bs : List UInt8) (x : Lab) (r : List UInt8) (h : decLab bs = some (x, r)) : bs = encLab x ++ r := by
  unfold decLab at h
  split at h
  · cases h
  · rename_i s r1 h1
    split at h
    · cases h
    · rename_i v r2 h2
      simp only [Option.some.injEq, Prod.mk.injEq] at h
      obtain ⟨rfl, rfl⟩ := h
      rw [(takeText_some h1).1, (takeText_some h2).1]
      simp [encLab]
theorem decLab_enc (x : Lab) (h1 : x.1.length < 18446744073709551616) (h2 : x.2.1.length < 18446744073709551616) (r : List UInt8) : decLab (encLab x ++ r) = some (x, r) := by
  unfold encLab decLab
  simp only [List.append_assoc, takeText_lebT _ _ h1, takeText_lebT _ _ h2]

def takeLb (b : List UInt8) : Option (List Lab × List UInt8) := takeL decLab rightL 6 b
theorem takeLb_some {b : List UInt8} {l : List Lab} {r : List UInt8} (h : takeLb b = some (l, r)) : rightL l = true ∧ b = putLb l ++ r := takeL_some encLab decLab decLab_some h
theorem takeLb_put (l : List Lab) (r : List UInt8) (h : rightL l = true) : takeLb (putLb l ++ r) = some (l, r) := by
  obtain ⟨h8, _, hall⟩ := rightL_len h
  refine takeL_put encLab decLab r h h8 (by omega) fun x hx r => ?_
  obtain ⟨h1, h2⟩ := hall x hx
  exact decLab_enc x (by omega) (by omega) r
theorem takeLb_none (b : List UInt8) (h : ∀ l r, rightL l = true → b = putLb l ++ r → False) : takeLb b = none := by
  rcases hk : takeLb b with _ | ⟨l, r⟩
  · rfl
  · obtain ⟨h1, h2⟩ := takeLb_some hk
    exact (h l r h1 h2).elim
theorem putLb_inj {l m : List Lab} (h1 : rightL l = true) (h2 : rightL m = true) (h : putLb l = putLb m) : l = m := by
  have e1 := takeLb_put l [] h1
  have e2 := takeLb_put m [] h2
  rw [h, e2] at e1
  simpa using e1.symm

end Go.Proofs.Ytkadildabhkocaa
