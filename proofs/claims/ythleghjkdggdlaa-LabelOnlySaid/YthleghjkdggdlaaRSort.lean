/- Proved here: what functions of the program compute, and plain laws. No condition. -/
import Derived.Test.YthleghjkdggdlaaLSort
set_option linter.unusedSimpArgs false
set_option linter.unusedVariables false
namespace Go.Proofs.Ythleghjkdggdlaa
open Go Go.AM

/-! ## the document's own sorting: each before the first that is not less -/
def insF (p : List Lab) (x : Lab) : List Lab := p.takeWhile (fun y => ltN y x) ++ x :: p.dropWhile (fun y => ltN y x)
def rsorted (l : List Lab) : List Lab := (l.take 7).foldl insF []
theorem insF_at (p : List Lab) (x : Lab) (j : Nat) (hj : j ≤ p.length) (h1 : ∀ m, m < j → (h : m < p.length) → ltN p[m] x = true) (h2 : ∀ y, p[j]? = some y → ltN y x = false) : insF p x = p.take j ++ x :: p.drop j := by
  have e : p.takeWhile (fun y => ltN y x) = p.take j := by
    have hp : p = p.take j ++ p.drop j := (List.take_append_drop j p).symm
    conv => lhs; rw [hp]
    rw [List.takeWhile_append_of_pos]
    · have : (p.drop j).takeWhile (fun y => ltN y x) = [] := by
        rcases hd : p.drop j with _ | ⟨y, t⟩
        · rfl
        · have : p[j]? = some y := by
            have := congrArg (·[0]?) hd
            simpa using this
          rw [List.takeWhile_cons, h2 y this]; rfl
      rw [this, List.append_nil]
    · intro y hy
      obtain ⟨m, hm, rfl⟩ := List.getElem_of_mem hy
      rw [List.getElem_take]
      simp at hm
      exact h1 m (by omega) (by omega)
  have e2 : p.takeWhile (fun y => ltN y x) ++ p.dropWhile (fun y => ltN y x) = p.take j ++ p.drop j := by rw [List.takeWhile_append_dropWhile, List.take_append_drop]
  rw [e] at e2
  unfold insF
  rw [e, List.append_cancel_left e2]
theorem insF_perm (p : List Lab) (x : Lab) : (insF p x).Perm (x :: p) := by
  have := List.perm_middle (a := x) (l₁ := p.takeWhile (fun y => ltN y x)) (l₂ := p.dropWhile (fun y => ltN y x))
  rwa [List.takeWhile_append_dropWhile] at this
theorem insF_length (p : List Lab) (x : Lab) : (insF p x).length = p.length + 1 := by simpa using (insF_perm p x).length_eq
theorem fold_insF_perm : ∀ (l p : List Lab), (l.foldl insF p).Perm (p ++ l)
  | [], p => by simp
  | x :: l, p => by
    simp only [List.foldl_cons]
    refine (fold_insF_perm l _).trans ?_
    exact ((insF_perm p x).append_right l).trans (List.perm_middle (a := x) (l₁ := p) (l₂ := l)).symm
def leN (x y : Lab) : Prop := ltN y x = false
theorem leN_trans (a b c : Lab) (h1 : leN a b) (h2 : leN b c) : leN a c := by
  unfold leN ltN at *
  rcases lt_tri a.1 b.1 with e | e | e
  · rw [e]; exact h2
  · rcases h : lt c.1 a.1 with _ | _
    · rfl
    · rw [lt_trans _ _ _ h e] at h2; cases h2
  · rw [e] at h1; cases h1
theorem tw_mem {α : Type} (q : α → Bool) : ∀ (l : List α) (a : α), a ∈ l.takeWhile q → q a = true
  | [], a, h => by simp at h
  | x :: l, a, h => by
    rw [List.takeWhile_cons] at h
    split at h
    · rename_i hx
      rcases List.mem_cons.1 h with rfl | h
      · exact hx
      · exact tw_mem q l a h
    · simp at h
theorem insF_sorted (p : List Lab) (x : Lab) (h : p.Pairwise leN) : (insF p x).Pairwise leN := by
  unfold insF
  have hs := h
  rw [← List.takeWhile_append_dropWhile (p := fun y => ltN y x) (l := p), List.pairwise_append] at hs
  obtain ⟨q1, q2, q3⟩ := hs
  have ht : ∀ a ∈ p.takeWhile (fun y => ltN y x), leN a x := fun a ha => lt_asymm (tw_mem (fun y => ltN y x) p a ha)
  have hd : ∀ b ∈ p.dropWhile (fun y => ltN y x), leN x b := by
    intro b hb
    rcases hc : p.dropWhile (fun y => ltN y x) with _ | ⟨y, t⟩
    · rw [hc] at hb; cases hb
    · have hy : leN x y := by
        have := List.head?_dropWhile_not (fun y => ltN y x) p
        rw [hc] at this
        simpa [leN] using this
      rw [hc] at hb q2
      rcases List.mem_cons.1 hb with rfl | hb
      · exact hy
      · exact leN_trans _ _ _ hy ((List.pairwise_cons.1 q2).1 _ hb)
  rw [List.pairwise_append]
  refine ⟨q1, List.pairwise_cons.2 ⟨hd, q2⟩, fun a ha b hb => ?_⟩
  rcases List.mem_cons.1 hb with rfl | hb
  · exact ht a ha
  · exact q3 a ha b hb
theorem fold_insF_sorted : ∀ (l p : List Lab), p.Pairwise leN → (l.foldl insF p).Pairwise leN
  | [], p, h => h
  | x :: l, p, h => fold_insF_sorted l _ (insF_sorted p x h)
theorem sorted_sorted (l : List Lab) : (sorted l).Pairwise leN := isort_sorted ltN leN (fun a b h => h) leN_trans (fun a b h => lt_asymm h) l

/-! ### of those sorted strictly there is one -/
def ltP (x y : Lab) : Prop := ltN x y = true
theorem rightL_strict {l : List Lab} (h : rightL l = true) : l.Pairwise ltP := by
  have hall := ((rightL_iff l).1 h).1
  have step : ∀ i, (hi : i + 1 < l.length) → ltP l[i] l[i + 1] := fun i hi => by
    have := hall (i + 1) hi
    rw [okAt_get l (i + 1) hi] at this
    simp only [Bool.and_eq_true, prevOk, List.getElem?_eq_getElem (show i < l.length by omega)] at this
    exact this.2
  rw [List.pairwise_iff_getElem]
  have key : ∀ d i, (hi : i + d + 1 < l.length) → ltP l[i] l[i + d + 1] := by
    intro d
    induction d with
    | zero => intro i hi; exact step i (by omega)
    | succ d ih => intro i hi; exact lt_trans _ _ _ (ih i (by omega)) (step (i + d + 1) (by omega))
  intro i j hi hj hij
  have := key (j - i - 1) i (by omega)
  simpa [show i + (j - i - 1) + 1 = j from by omega] using this
theorem one_sorted {l m : List Lab} (hp : l.Perm m) (hl : l.Pairwise ltP) (hm : m.Pairwise leN) : l = m := by
  have hle : l.Pairwise leN := hl.imp fun h => lt_asymm h
  refine hp.eq_of_pairwise (fun a b ha hb h1 h2 => ?_) hle hm
  have hb' := hp.mem_iff.2 hb
  obtain ⟨i, hi, rfl⟩ := List.getElem_of_mem ha
  obtain ⟨j, hj, rfl⟩ := List.getElem_of_mem hb'
  rw [List.pairwise_iff_getElem] at hl
  rcases Nat.lt_trichotomy i j with h | h | h
  · have := hl i j hi hj h
    unfold ltP at this; unfold leN at h2; rw [this] at h2; cases h2
  · subst h; rfl
  · have := hl j i hj hi h
    unfold ltP at this; unfold leN at h1; rw [this] at h1; cases h1
theorem rsorted_len (l : List Lab) : (rsorted l).length = min 7 l.length := by
  have := (fold_insF_perm (l.take 7) []).length_eq
  simpa [rsorted] using this
theorem sortO_r (l : List Lab) : sortO l = if rightL (rsorted l) then (rsorted l, 0) else ([], 50) := by
  have hperm : l.length ≤ 7 → (sorted l).Perm (rsorted l) := fun h => by
    have h1 := fold_insF_perm (l.take 7) []
    rw [List.nil_append, List.take_of_length_le h] at h1
    have h2 : (rsorted l) = l.foldl insF [] := by unfold rsorted; rw [List.take_of_length_le h]
    rw [h2]
    exact (isort_perm ltN l).trans h1.symm
  have hrs : (rsorted l).Pairwise leN := fold_insF_sorted _ _ List.Pairwise.nil
  unfold sortO
  rcases h1 : rightL (sorted l) with _ | _
  · rcases h2 : rightL (rsorted l) with _ | _
    · rfl
    · have h6 := ((rightL_iff _).1 h2).2.2
      rw [rsorted_len] at h6
      have := one_sorted (hperm (by omega)).symm (rightL_strict h2) (sorted_sorted l)
      rw [this, h1] at h2; cases h2
  · have h6 := ((rightL_iff _).1 h1).2.2
    rw [sorted_length] at h6
    have := one_sorted (hperm (by omega)) (rightL_strict h1) hrs
    rw [← this, h1]
end Go.Proofs.Ythleghjkdggdlaa
