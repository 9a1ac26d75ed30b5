/- Proved here: what functions of the program compute, and plain laws. No condition. -/
import Derived.Test.YtldckdbdgbpmpaaMergeL
set_option linter.unusedSimpArgs false
set_option linter.unusedVariables false
namespace Go.Proofs.Ytldckdbdgbpmpaa
open Go Go.AM

/-! ## blocks that are each sorted -/
def ck (s j : Nat) (l : List PtT) : List PtT := (l.drop (s * j)).take s
structure StB (s : Nat) (l base : List PtT) (k : Nat) (M : List PtT) : Prop where
  len : M.length = l.length
  done : ∀ j, j < k → ck s j M = sortP (ck s j l)
  rest : M.drop (s * k) = base.drop (s * k)
def Blk (s : Nat) (l M : List PtT) : Prop := M.length = l.length ∧ ∀ j, ck s j M = sortP (ck s j l)
theorem ck_left {s j : Nat} {A T : List PtT} (h : s * (j + 1) ≤ A.length) : ck s j (A ++ T) = ck s j A := by
  unfold ck
  have : s * (j + 1) = s * j + s := by rw [Nat.mul_succ]
  rw [List.drop_append_of_le_length (by omega), List.take_append_of_le_length (by rw [List.length_drop]; omega)]
theorem ck_at {s k : Nat} {A S B : List PtT} (hA : A.length = s * k) (hS : S.length = s ∨ (S.length ≤ s ∧ B = [])) : ck s k (A ++ S ++ B) = S := by
  unfold ck
  rw [List.append_assoc, ← hA, List.drop_left]
  rcases hS with h | ⟨h, rfl⟩
  · rw [List.take_append_of_le_length (by omega), List.take_of_length_le (by omega)]
  · rw [List.append_nil, List.take_of_length_le h]
theorem ck_len (s j : Nat) (l : List PtT) : (ck s j l).length = min s (l.length - s * j) := by unfold ck; rw [List.length_take, List.length_drop]
theorem ck_nil {s j : Nat} {l : List PtT} (h : l.length ≤ s * j) : ck s j l = [] := by
  unfold ck; rw [List.drop_of_length_le h, List.take_nil]
theorem StB.step {s : Nat} {l base M : List PtT} {k : Nat} (h : StB s l base k M) {A S S' B : List PtT} (e : M = A ++ S ++ B) (hA : A.length = s * k) (hS : S.length = s) (hS' : S' = sortP (ck s k l)) (hl : S'.length = S.length) : StB s l base (k + 1) (A ++ S' ++ B) := by
  have hks : s * (k + 1) = s * k + s := Nat.mul_succ s k
  refine ⟨?_, fun j hj => ?_, ?_⟩
  · have := h.len; rw [e] at this
    simp only [List.length_append] at this ⊢; omega
  · rcases Nat.lt_or_ge j k with hjk | hjk
    · have hle : s * (j + 1) ≤ A.length := by rw [hA]; exact Nat.mul_le_mul_left s hjk
      have h1 := h.done j hjk
      rw [e, List.append_assoc, ck_left hle] at h1
      rw [List.append_assoc, ck_left hle, h1]
    · obtain rfl : j = k := by omega
      rw [ck_at hA (.inl (by omega)), hS']
  · have h1 := h.rest
    rw [e] at h1
    have h2 := congrArg (List.drop s) h1
    rw [List.drop_drop, List.drop_drop] at h2
    rw [hks, ← h2]
    have a1 : (A ++ S).length = s * k + s := by rw [List.length_append]; omega
    have a2 : (A ++ S').length = s * k + s := by rw [List.length_append]; omega
    rw [← a1, List.drop_left, a1, ← a2, List.drop_left]
theorem StB.fin {s : Nat} {l base M : List PtT} {k : Nat} (h : StB s l base k M) {A S S' : List PtT} (e : M = A ++ S) (hA : A.length = s * k) (hS : S.length ≤ s) (hS' : S' = sortP (ck s k l)) (hl : S'.length = S.length) : Blk s l (A ++ S') := by
  have hks : s * (k + 1) = s * k + s := Nat.mul_succ s k
  have hlen : (A ++ S').length = l.length := by
    have := h.len; rw [e] at this
    simp only [List.length_append] at this ⊢; omega
  refine ⟨hlen, fun j => ?_⟩
  rcases Nat.lt_trichotomy j k with hjk | rfl | hjk
  · have hle : s * (j + 1) ≤ A.length := by rw [hA]; exact Nat.mul_le_mul_left s hjk
    have h1 := h.done j hjk
    rw [e, ck_left hle] at h1
    rw [ck_left hle, h1]
  · have := ck_at (s := s) (k := j) (A := A) (S := S') (B := []) hA (.inr ⟨by omega, rfl⟩)
    rw [List.append_nil] at this
    rw [this, hS']
  · have hle : s * (k + 1) ≤ s * j := Nat.mul_le_mul_left s hjk
    have h1 : (A ++ S').length ≤ s * j := by rw [List.length_append]; omega
    rw [ck_nil h1, ck_nil (by omega)]; rfl
theorem sortP_two (U V : List PtT) : sortP (sortP U ++ sortP V) = sortP (U ++ V) := by
  refine sortP_of (sortP_sorted _) ?_
  exact (sortP_same _).trans ((sortP_same U).app (sortP_same V))
theorem ck_two (s k : Nat) (l : List PtT) : ck (2 * s) k l = ck s (2 * k) l ++ ck s (2 * k + 1) l := by
  unfold ck
  have e1 : s * (2 * k) = 2 * s * k := by rw [Nat.mul_comm 2 s, Nat.mul_assoc]
  have e2 : s * (2 * k + 1) = 2 * s * k + s := by rw [Nat.mul_succ, e1]
  rw [e1, e2, ← List.drop_drop]
  generalize l.drop (2 * s * k) = T
  rw [show 2 * s = s + s from by omega, List.take_add]
theorem blk_whole {s : Nat} {l M : List PtT} (h : Blk s l M) (hs : l.length ≤ s) : M = sortP l := by
  have h1 := h.2 0
  unfold ck at h1
  rw [Nat.mul_zero, List.drop_zero, List.drop_zero, List.take_of_length_le (by rw [h.1]; exact hs), List.take_of_length_le hs] at h1
  exact h1
theorem StB.zero (s : Nat) (l base : List PtT) (hb : base.length = l.length) : StB s l base 0 base := ⟨hb, fun j h => by omega, rfl⟩
end Go.Proofs.Ytldckdbdgbpmpaa
