/- Proved here: what functions of the program compute, and plain laws. No condition. -/
import Derived.Test.YtldckdbdgbpmpaaRotate
set_option linter.unusedSimpArgs false
set_option linter.unusedVariables false
namespace Go.Proofs.Ytldckdbdgbpmpaa
open Go Go.AM

/-! ## the plain law of merging in place -/
theorem sortP_srt {l : List PtT} (h : Srt l) : sortP l = l := (sortP_of h (SameK.rfl' l)).symm
theorem srt_app {a b : List PtT} (h : Srt (a ++ b)) : Srt a ∧ Srt b ∧ ∀ x ∈ a, ∀ y ∈ b, x.1 ≤ y.1 := List.pairwise_append.1 h
theorem srt_mk {a b : List PtT} (h1 : Srt a) (h2 : Srt b) (h3 : ∀ x ∈ a, ∀ y ∈ b, x.1 ≤ y.1) : Srt (a ++ b) := List.pairwise_append.2 ⟨h1, h2, h3⟩
theorem take_le {B : List PtT} (hB : Srt B) {lo : Nat} {y : PtT} (h0 : 0 < lo) (h : B[lo - 1]? = some y) : ∀ z ∈ B.take lo, z.1 ≤ y.1 := by
  intro z hz
  obtain ⟨hlt, he⟩ := List.getElem?_eq_some_iff.1 h
  have e : B.take lo = B.take (lo - 1) ++ [y] := by
    rw [← he]
    have := List.take_succ_eq_append_getElem hlt
    rwa [show lo - 1 + 1 = lo from by omega] at this
  have hs : Srt (B.take lo) := List.Pairwise.sublist (List.take_sublist lo B) hB
  rw [e] at hz hs
  rcases List.mem_append.1 hz with h1 | h1
  · exact (srt_app hs).2.2 z h1 y (by simp)
  · simp at h1; subst h1; exact Int.le_refl _
theorem drop_ge {B : List PtT} (hB : Srt B) {hi : Nat} {y : PtT} (h : B[hi]? = some y) : ∀ z ∈ B.drop hi, y.1 ≤ z.1 := by
  intro z hz
  obtain ⟨hlt, he⟩ := List.getElem?_eq_some_iff.1 h
  have e : B.drop hi = y :: B.drop (hi + 1) := by rw [← he]; exact List.drop_eq_getElem_cons hlt
  have hs : Srt (B.drop hi) := List.Pairwise.sublist (List.drop_sublist hi B) hB
  rw [e] at hz hs
  rcases List.mem_cons.1 hz with h1 | h1
  · subst h1; exact Int.le_refl _
  · exact (List.pairwise_cons.1 hs).1 z h1
theorem ins_left {x : PtT} {B : List PtT} {p : Nat} (hB : Srt B) (h1 : ∀ y ∈ B.take p, y.1 < x.1) (h2 : ∀ y ∈ B.drop p, x.1 ≤ y.1) : B.take p ++ x :: B.drop p = sortP ([x] ++ B) := by
  have hB' : Srt (B.take p ++ B.drop p) := by rw [List.take_append_drop]; exact hB
  obtain ⟨q1, q2, q3⟩ := srt_app hB'
  refine sortP_of (srt_mk q1 (List.pairwise_cons.2 ⟨h2, q2⟩) fun a ha b hb => ?_) ?_
  · rcases List.mem_cons.1 hb with rfl | hb
    · have := h1 a ha; omega
    · exact q3 a ha b hb
  · have h := (SameK.swap (a := [x]) (b := B.take p) fun a ha b hb => by simp at ha; subst ha; exact h1 b hb).symm.app (SameK.rfl' (B.drop p))
    rw [List.append_assoc, List.append_assoc, List.take_append_drop] at h
    exact h
theorem ins_right {y : PtT} {A : List PtT} {p : Nat} (hA : Srt A) (h1 : ∀ x ∈ A.take p, x.1 ≤ y.1) (h2 : ∀ x ∈ A.drop p, y.1 < x.1) : A.take p ++ y :: A.drop p = sortP (A ++ [y]) := by
  have hA' : Srt (A.take p ++ A.drop p) := by rw [List.take_append_drop]; exact hA
  obtain ⟨q1, q2, q3⟩ := srt_app hA'
  refine sortP_of (srt_mk q1 (List.pairwise_cons.2 ⟨fun z hz => by have := h2 z hz; omega, q2⟩) fun a ha b hb => ?_) ?_
  · rcases List.mem_cons.1 hb with rfl | hb
    · exact h1 a ha
    · exact q3 a ha b hb
  · have h := (SameK.rfl' (A.take p)).app (SameK.swap (a := A.drop p) (b := [y]) fun a ha b hb => by simp at hb; subst hb; exact h2 a ha).symm
    rw [← List.append_assoc (A.take p) (A.drop p), List.take_append_drop] at h
    exact h
theorem sortP_mem {l : List PtT} {x : PtT} : x ∈ sortP l ↔ x ∈ l := (isort_perm ltP l).mem_iff
theorem sortP_sorted (l : List PtT) : Srt (sortP l) := isort_srt l
theorem sortP_same (l : List PtT) : SameK (sortP l) l := isort_same l
theorem merge_split {A1 A2 B1 B2 : List PtT} (hA : Srt (A1 ++ A2)) (hB : Srt (B1 ++ B2)) (h1 : ∀ x ∈ A2, ∀ y ∈ B1, y.1 < x.1) (h2 : ∀ x ∈ A1, ∀ y ∈ B2, x.1 ≤ y.1) :
    sortP (A1 ++ B1) ++ sortP (A2 ++ B2) = sortP ((A1 ++ A2) ++ (B1 ++ B2)) := by
  obtain ⟨_, _, a3⟩ := srt_app hA
  obtain ⟨_, _, b3⟩ := srt_app hB
  refine sortP_of (srt_mk (sortP_sorted _) (sortP_sorted _) fun x hx y hy => ?_) ?_
  · rw [sortP_mem] at hx hy
    rcases List.mem_append.1 hx with hx | hx <;> rcases List.mem_append.1 hy with hy | hy
    · exact a3 x hx y hy
    · exact h2 x hx y hy
    · have := h1 y hy x hx; omega
    · exact b3 x hx y hy
  · have h := (sortP_same (A1 ++ B1)).app (sortP_same (A2 ++ B2))
    refine h.trans ?_
    have hs := (SameK.rfl' A1).app ((SameK.swap (a := A2) (b := B1) h1).symm.app (SameK.rfl' B2))
    simp only [List.append_assoc] at hs ⊢
    exact hs
theorem shr1 (n : Nat) : (n : Int).fdiv (2 ^ min 1 IntKind.u64.bits) = ((n / 2 : Nat) : Int) := by
  show (n : Int).fdiv ((2 : Nat) : Int) = _
  rw [Int.fdiv_eq_ediv_of_nonneg _ (by omega)]; rfl
end Go.Proofs.Ytldckdbdgbpmpaa
