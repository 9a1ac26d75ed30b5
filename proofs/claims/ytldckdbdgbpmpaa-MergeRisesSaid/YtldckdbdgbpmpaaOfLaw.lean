/- Proved here: what functions of the program compute, and plain laws. No condition. -/
import Derived.Test.YtldckdbdgbpmpaaMergeL
set_option linter.unusedSimpArgs false
set_option linter.unusedVariables false
namespace Go.Proofs.Ytldckdbdgbpmpaa
open Go Go.AM

/-! ## the last of each key, in rising order -/
def lasts : List PtT → List PtT
  | [] => []
  | [x] => [x]
  | x :: y :: l => if x.1 = y.1 then lasts (y :: l) else x :: lasts (y :: l)
def ofP (l : List PtT) : List PtT := lasts (sortP l)
theorem lasts_last (x : PtT) : lasts [x] = [x] := rfl
theorem lasts_same {x y : PtT} {l : List PtT} (h : x.1 = y.1) : lasts (x :: y :: l) = lasts (y :: l) := by rw [lasts]; exact if_pos h
theorem lasts_ne {x y : PtT} {l : List PtT} (h : x.1 ≠ y.1) : lasts (x :: y :: l) = x :: lasts (y :: l) := by rw [lasts]; exact if_neg h

def Rise (l : List PtT) : Prop := l.Pairwise fun x y => x.1 < y.1
def lastOf (k : Int) (l : List PtT) : Option PtT := (fk k l).getLast?
theorem Rise.srt {l : List PtT} (h : Rise l) : Srt l := h.imp fun h => Int.le_of_lt h
theorem lasts_sub : ∀ (l : List PtT) (x : PtT), x ∈ lasts l → x ∈ l
  | [], x, h => h
  | [y], x, h => h
  | y :: z :: l, x, h => by
    by_cases e : y.1 = z.1
    · rw [lasts_same e] at h
      exact List.mem_cons_of_mem _ (lasts_sub (z :: l) x h)
    · rw [lasts_ne e] at h
      rcases List.mem_cons.1 h with rfl | h
      · simp
      · exact List.mem_cons_of_mem _ (lasts_sub (z :: l) x h)
theorem lasts_rise : ∀ (l : List PtT), Srt l → Rise (lasts l)
  | [], _ => List.Pairwise.nil
  | [x], _ => by unfold lasts; exact List.pairwise_singleton _ _
  | x :: y :: l, h => by
    have h2 := (List.pairwise_cons.1 h).2
    by_cases e : x.1 = y.1
    · rw [lasts_same e]; exact lasts_rise (y :: l) h2
    · rw [lasts_ne e]
      refine List.pairwise_cons.2 ⟨fun z hz => ?_, lasts_rise (y :: l) h2⟩
      have hz' := lasts_sub _ _ hz
      have h1 := (List.pairwise_cons.1 h).1 y (by simp)
      rcases List.mem_cons.1 hz' with rfl | hz'
      · omega
      · have := (List.pairwise_cons.1 h2).1 z hz'; omega
theorem lastOf_cons_ne {x : PtT} {l : List PtT} {k : Int} (h : x.1 ≠ k) : lastOf k (x :: l) = lastOf k l := by
  unfold lastOf
  rw [fk_cons]
  have : fk k [x] = [] := by simp [fk, h]
  rw [this, List.nil_append]
theorem lastOf_cons_of {x y : PtT} {l : List PtT} (h : x.1 = y.1) : lastOf y.1 (x :: y :: l) = lastOf y.1 (y :: l) := by
  unfold lastOf
  rw [fk_cons, fk_cons y.1 y]
  have e1 : fk y.1 [x] = [x] := by simp [fk, h]
  have e2 : fk y.1 [y] = [y] := by simp [fk]
  rw [e1, e2]
  simp
theorem lastOf_none {k : Int} {l : List PtT} (h : ∀ x ∈ l, x.1 ≠ k) : lastOf k l = none := by
  unfold lastOf; rw [fk_nil h]; rfl
theorem lasts_mem : ∀ (l : List PtT), Srt l → ∀ x, x ∈ lasts l ↔ lastOf x.1 l = some x
  | [], _, x => by simp [lasts, lastOf, fk]
  | [y], _, x => by
    rw [lasts_last, List.mem_singleton]
    constructor
    · rintro rfl; simp [lastOf, fk]
    · intro h
      by_cases e : y.1 = x.1
      · have : fk x.1 [y] = [y] := by simp [fk, e]
        unfold lastOf at h
        rw [this] at h
        simpa using h.symm
      · rw [lastOf_cons_ne e] at h; simp [lastOf, fk] at h
  | y :: z :: l, hs, x => by
    have h2 := (List.pairwise_cons.1 hs).2
    have ih := lasts_mem (z :: l) h2 x
    by_cases e : y.1 = z.1
    · rw [lasts_same e, ih]
      by_cases ex : y.1 = x.1
      · have : x.1 = z.1 := by omega
        rw [this, lastOf_cons_of e]
      · rw [lastOf_cons_ne ex]
    · rw [lasts_ne e, List.mem_cons, ih]
      have hyz := (List.pairwise_cons.1 hs).1 z (by simp)
      have hall : ∀ w ∈ z :: l, w.1 ≠ y.1 := fun w hw => by
        rcases List.mem_cons.1 hw with rfl | hw
        · omega
        · have := (List.pairwise_cons.1 h2).1 w hw; omega
      by_cases ex : y.1 = x.1
      · have h3 : lastOf x.1 (y :: z :: l) = some y := by
          unfold lastOf
          rw [fk_cons, ← ex, fk_nil hall]
          simp [fk]
        rw [h3]
        constructor
        · rintro (rfl | h)
          · rfl
          · rw [← ex, lastOf_none hall] at h; cases h
        · intro h; left; simpa using h.symm
      · rw [lastOf_cons_ne ex]
        constructor
        · rintro (rfl | h)
          · exact absurd rfl ex
          · exact h
        · intro h; exact .inr h
theorem ofP_rise (l : List PtT) : Rise (ofP l) := lasts_rise _ (sortP_sorted l)
theorem ofP_mem (l : List PtT) (x : PtT) : x ∈ ofP l ↔ lastOf x.1 l = some x := by
  unfold ofP
  rw [lasts_mem _ (sortP_sorted l)]
  unfold lastOf
  rw [sortP_same l x.1]
theorem rise_ext {a b : List PtT} (ha : Rise a) (hb : Rise b) (h : ∀ x, x ∈ a ↔ x ∈ b) : a = b := by
  induction a generalizing b with
  | nil =>
    cases b with
    | nil => rfl
    | cons y b => exact absurd ((h y).2 (by simp)) (by simp)
  | cons x a ih =>
    cases b with
    | nil => exact absurd ((h x).1 (by simp)) (by simp)
    | cons y b =>
      have hx := (h x).1 (by simp)
      have hy := (h y).2 (by simp)
      have e : x = y := by
        rcases List.mem_cons.1 hx with e | hx
        · exact e
        · rcases List.mem_cons.1 hy with e | hy
          · exact e.symm
          · have h1 := (List.pairwise_cons.1 hb).1 x hx
            have h2 := (List.pairwise_cons.1 ha).1 y hy
            omega
      subst e
      congr 1
      refine ih (List.pairwise_cons.1 ha).2 (List.pairwise_cons.1 hb).2 fun z => ⟨fun hz => ?_, fun hz => ?_⟩
      · rcases List.mem_cons.1 ((h z).1 (List.mem_cons_of_mem _ hz)) with rfl | h3
        · have := (List.pairwise_cons.1 ha).1 z hz; omega
        · exact h3
      · rcases List.mem_cons.1 ((h z).2 (List.mem_cons_of_mem _ hz)) with rfl | h3
        · have := (List.pairwise_cons.1 hb).1 z hz; omega
        · exact h3
theorem ofP_of {l r : List PtT} (h1 : Rise r) (h2 : ∀ x, x ∈ r ↔ lastOf x.1 l = some x) : r = ofP l :=
  rise_ext h1 (ofP_rise l) fun x => by rw [h2, ofP_mem]
theorem ofP_idem (l : List PtT) (h : Rise l) : ofP l = l := by
  refine (ofP_of h fun x => ?_).symm
  constructor
  · intro hx
    have : fk x.1 l = [x] := by
      induction l with
      | nil => simp at hx
      | cons y l ih =>
        rw [fk_cons]
        rcases List.mem_cons.1 hx with rfl | hx
        · have e := fk_nil (k := x.1) (l := l) fun z hz => by have := (List.pairwise_cons.1 h).1 z hz; omega
          rw [e]; simp [fk]
        · have hy := (List.pairwise_cons.1 h).1 x hx
          have e : fk x.1 [y] = [] := by simp [fk]; omega
          rw [e, ih (List.pairwise_cons.1 h).2 hx]; rfl
    unfold lastOf; rw [this]; rfl
  · intro hx
    unfold lastOf at hx
    have := List.mem_of_getLast? hx
    exact (List.mem_filter.1 this).1
theorem ofP_ofP (l : List PtT) : ofP (ofP l) = ofP l := ofP_idem _ (ofP_rise l)
theorem lastOf_append (k : Int) (a b : List PtT) : lastOf k (a ++ b) = (lastOf k b).or (lastOf k a) := by
  unfold lastOf
  rw [fk_append, List.getLast?_append]
theorem lastOf_ofP (k : Int) (l : List PtT) : lastOf k (ofP l) = lastOf k l := by
  rcases h : lastOf k l with _ | x
  · refine lastOf_none fun x hx hk => ?_
    rw [ofP_mem, hk, h] at hx; cases hx
  · have hk : x.1 = k := by
      unfold lastOf at h
      have := List.mem_of_getLast? h
      simpa using (List.mem_filter.1 this).2
    subst hk
    have hm := (ofP_mem l x).2 h
    have := (ofP_mem (ofP l) x).1 (by rw [ofP_ofP]; exact hm)
    exact this
/-- what is fixed by the last of each key -/
theorem ofP_congr {a b : List PtT} (h : ∀ k, lastOf k a = lastOf k b) : ofP a = ofP b := ofP_of (ofP_rise a) fun x => by rw [ofP_mem, h]
end Go.Proofs.Ytldckdbdgbpmpaa
