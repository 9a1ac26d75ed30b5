/- Proved here: what functions of the program compute, and plain laws. No condition. -/
import Derived.Test.YtldckdbdgbpmpaaHeapM
set_option linter.unusedSimpArgs false
set_option linter.unusedVariables false
namespace Go.Proofs.Ytldckdbdgbpmpaa
open Go Go.AM

/-! ## a heap of runs: plain law -/
def at0 (h : List RunT) (i : Nat) : RunT := h.getD i (0, [])
def swapL (h : List RunT) (i j : Nat) : List RunT := (h.set i (at0 h j)).set j (at0 h i)
def upF : Nat → List RunT → Nat → List RunT
  | 0, h, _ => h
  | k + 1, h, j => if (j - 1) / 2 = j then h else if ltR (at0 h j) (at0 h ((j - 1) / 2)) then upF k (swapL h ((j - 1) / 2) j) ((j - 1) / 2) else h
def kid (h : List RunT) (i n : Nat) : Nat := if 2 * i + 2 < n ∧ ltR (at0 h (2 * i + 2)) (at0 h (2 * i + 1)) = true then 2 * i + 2 else 2 * i + 1
def downF : Nat → List RunT → Nat → Nat → List RunT
  | 0, h, _, _ => h
  | k + 1, h, i, n => if n ≤ 2 * i + 1 then h else if ltR (at0 h (kid h i n)) (at0 h i) then downF k (swapL h i (kid h i n)) (kid h i n) n else h

theorem ltR_iff (x y : RunT) : ltR x y = true ↔ hd x < hd y ∨ (hd x = hd y ∧ y.1 < x.1) := by
  unfold ltR
  split
  · rename_i h; simp [h]
  · rename_i h; simp [h]
theorem lt_asymm {x y : RunT} (h : ltR x y = true) : ¬ ltR y x = true := by rw [ltR_iff] at *; omega
theorem lt_neg {x y z : RunT} (h : ¬ ltR x y = true) (k : ¬ ltR y z = true) : ¬ ltR x z = true := by rw [ltR_iff] at *; omega
theorem lt_irr (x : RunT) : ¬ ltR x x = true := by rw [ltR_iff]; omega

theorem at0_eq {h : List RunT} {i : Nat} (hi : i < h.length) : at0 h i = h[i] := by unfold at0; rw [List.getD_eq_getElem?_getD, List.getElem?_eq_getElem hi]; rfl
theorem at0_some {h : List RunT} {i : Nat} (hi : i < h.length) : h[i]? = some (at0 h i) := by rw [at0_eq hi]; exact List.getElem?_eq_getElem hi
theorem swapL_len (h : List RunT) (i j : Nat) : (swapL h i j).length = h.length := by simp [swapL]
theorem at0_mem {h : List RunT} {i : Nat} (hi : i < h.length) : at0 h i ∈ h := by rw [at0_eq hi]; exact List.getElem_mem hi
theorem swapL_perm {h : List RunT} {i j : Nat} (hi : i < h.length) (hj : j < h.length) : (swapL h i j).Perm h := by
  unfold swapL; rw [at0_eq hi, at0_eq hj]; exact List.set_set_perm hi hj
theorem at0_set {h : List RunT} {i k : Nat} {x : RunT} (hk : k < h.length) : at0 (h.set i x) k = if i = k then x else at0 h k := by
  unfold at0
  rw [List.getD_eq_getElem?_getD, List.getElem?_set]
  by_cases e : i = k
  · subst e; simp [hk]
  · simp [e]
theorem at0_swap {h : List RunT} {i j k : Nat} (hk : k < h.length) : at0 (swapL h i j) k = if j = k then at0 h i else if i = k then at0 h j else at0 h k := by
  unfold swapL
  rw [at0_set (by simpa using hk), at0_set hk]

def HeapN (h : List RunT) (n : Nat) : Prop := ∀ i, 0 < i → i < n → ¬ ltR (at0 h i) (at0 h ((i - 1) / 2)) = true
def UpInv (h : List RunT) (j : Nat) : Prop := (∀ i, 0 < i → i < h.length → i ≠ j → ¬ ltR (at0 h i) (at0 h ((i - 1) / 2)) = true) ∧
  ∀ c, 0 < c → c < h.length → (c - 1) / 2 = j → 0 < j → ¬ ltR (at0 h c) (at0 h ((j - 1) / 2)) = true
theorem up_step {h : List RunT} {j : Nat} (hj : j < h.length) (h0 : 0 < j) (hi : UpInv h j) (hl : ltR (at0 h j) (at0 h ((j - 1) / 2)) = true) : UpInv (swapL h ((j - 1) / 2) j) ((j - 1) / 2) := by
  obtain ⟨ha, hb⟩ := hi
  obtain ⟨p, hp⟩ : ∃ p, p = (j - 1) / 2 := ⟨_, rfl⟩
  have hpj : p < j := by omega
  rw [← hp] at hl hb ⊢
  refine ⟨fun i i0 il ip => ?_, fun c c0 cl cp p0 => ?_⟩
  · rw [swapL_len] at il
    obtain ⟨q, hq⟩ : ∃ q, q = (i - 1) / 2 := ⟨_, rfl⟩
    rw [← hq, at0_swap il, at0_swap (by omega)]
    have h1 := ha i i0 il
    rw [← hq] at h1
    by_cases e : j = i
    · subst e
      have e2 : q = p := by omega
      subst e2
      rw [if_pos rfl, if_neg (by omega), if_pos rfl]
      exact lt_asymm hl
    · rw [if_neg e, if_neg (by omega)]
      by_cases e1 : j = q
      · subst e1
        rw [if_pos rfl]
        exact hb i i0 il hq.symm h0
      · rw [if_neg e1]
        by_cases e2 : p = q
        · subst e2
          rw [if_pos rfl]
          intro hc
          have h2 := h1 (by omega)
          exact lt_neg h2 (lt_asymm hl) hc
        · rw [if_neg e2]; exact h1 (by omega)
  · rw [swapL_len] at cl
    obtain ⟨q, hq⟩ : ∃ q, q = (p - 1) / 2 := ⟨_, rfl⟩
    rw [← hq, at0_swap cl, at0_swap (by omega), if_neg (c := j = q) (by omega), if_neg (c := p = q) (by omega), if_neg (c := p = c) (by omega)]
    have h2 := ha p p0 (by omega) (by omega)
    rw [← hq] at h2
    by_cases e : j = c
    · rw [if_pos e]; exact h2
    · rw [if_neg e]
      have h1 := ha c c0 cl (fun e' => e e'.symm)
      rw [cp] at h1
      exact lt_neg h1 h2
theorem upF_spec : ∀ (k : Nat) (h : List RunT) (j : Nat), j < k → j < h.length → UpInv h j → HeapN (upF k h j) h.length ∧ (upF k h j).Perm h
  | 0, h, j, hk, _, _ => absurd hk (Nat.not_lt_zero _)
  | k + 1, h, j, hk, hj, hi => by
    unfold upF
    by_cases e : (j - 1) / 2 = j
    · rw [if_pos e]
      exact ⟨fun i i0 il => hi.1 i i0 il (by omega), List.Perm.refl _⟩
    · rw [if_neg e]
      by_cases hl : ltR (at0 h j) (at0 h ((j - 1) / 2)) = true
      · rw [if_pos hl]
        have := upF_spec k (swapL h ((j - 1) / 2) j) ((j - 1) / 2) (by omega) (by rw [swapL_len]; omega) (up_step hj (by omega) hi hl)
        rw [swapL_len] at this
        exact ⟨this.1, this.2.trans (swapL_perm (by omega) hj)⟩
      · rw [if_neg hl]
        refine ⟨fun i i0 il => ?_, List.Perm.refl _⟩
        by_cases e2 : i = j
        · subst e2; exact hl
        · exact hi.1 i i0 il e2

def DownInv (h : List RunT) (i n : Nat) : Prop := (∀ c, 0 < c → c < n → (c - 1) / 2 ≠ i → ¬ ltR (at0 h c) (at0 h ((c - 1) / 2)) = true) ∧
  ∀ c, 0 < c → c < n → (c - 1) / 2 = i → 0 < i → ¬ ltR (at0 h c) (at0 h ((i - 1) / 2)) = true
theorem kid_spec {h : List RunT} {i n : Nat} (hn : ¬ n ≤ 2 * i + 1) : kid h i n < n ∧ (kid h i n - 1) / 2 = i ∧ i < kid h i n ∧ ∀ c, 0 < c → c < n → (c - 1) / 2 = i → ¬ ltR (at0 h c) (at0 h (kid h i n)) = true := by
  unfold kid
  split
  · rename_i hc
    refine ⟨hc.1, by omega, by omega, fun c c0 cn cp => ?_⟩
    by_cases e : c = 2 * i + 2
    · subst e; exact lt_irr _
    · have : c = 2 * i + 1 := by omega
      subst this; exact lt_asymm hc.2
  · rename_i hc
    refine ⟨by omega, by omega, by omega, fun c c0 cn cp => ?_⟩
    by_cases e : c = 2 * i + 1
    · subst e; exact lt_irr _
    · have : c = 2 * i + 2 := by omega
      subst this
      exact fun hl => hc ⟨cn, hl⟩
theorem down_step {h : List RunT} {i n : Nat} (hn : n ≤ h.length) (hin : ¬ n ≤ 2 * i + 1) (hi : DownInv h i n) (hl : ltR (at0 h (kid h i n)) (at0 h i) = true) : DownInv (swapL h i (kid h i n)) (kid h i n) n := by
  obtain ⟨ha, hb⟩ := hi
  obtain ⟨k1, k2, k3, k4⟩ := kid_spec (h := h) hin
  generalize kid h i n = j at *
  refine ⟨fun c c0 cn cp => ?_, fun c c0 cn cp j0 => ?_⟩
  · obtain ⟨q, hq⟩ : ∃ q, q = (c - 1) / 2 := ⟨_, rfl⟩
    rw [← hq] at cp ⊢
    rw [at0_swap (by omega), at0_swap (by omega), if_neg (c := j = q) (fun e => cp e.symm)]
    by_cases e : i = q
    · rw [if_pos e]
      by_cases e2 : j = c
      · rw [if_pos e2]; exact lt_asymm hl
      · rw [if_neg e2, if_neg (by omega)]; exact k4 c c0 cn (by omega)
    · rw [if_neg e, if_neg (c := j = c) (by omega)]
      by_cases e2 : i = c
      · rw [if_pos e2]
        have := hb j (by omega) k1 k2 (by omega)
        rw [e2, ← hq] at this
        exact this
      · rw [if_neg e2]
        have := ha c c0 cn (by omega)
        rw [← hq] at this
        exact this
  · rw [at0_swap (by omega), at0_swap (by omega), k2, if_neg (c := j = i) (by omega), if_pos rfl, if_neg (c := j = c) (by omega), if_neg (c := i = c) (by omega)]
    have := ha c c0 cn (by omega)
    rw [cp] at this
    exact this
theorem downF_spec : ∀ (k : Nat) (h : List RunT) (i n : Nat), n ≤ i + k → n ≤ h.length → DownInv h i n → HeapN (downF k h i n) n ∧ (downF k h i n).Perm h ∧ ∀ c, n ≤ c → at0 (downF k h i n) c = at0 h c
  | 0, h, i, n, hk, hn, hi => ⟨fun c c0 cn => hi.1 c c0 cn (by omega), List.Perm.refl _, fun _ _ => rfl⟩
  | k + 1, h, i, n, hk, hn, hi => by
    unfold downF
    by_cases e : n ≤ 2 * i + 1
    · rw [if_pos e]
      exact ⟨fun c c0 cn => hi.1 c c0 cn (by omega), List.Perm.refl _, fun _ _ => rfl⟩
    · rw [if_neg e]
      obtain ⟨k1, k2, k3, k4⟩ := kid_spec (h := h) e
      by_cases hl : ltR (at0 h (kid h i n)) (at0 h i) = true
      · rw [if_pos hl]
        have := downF_spec k (swapL h i (kid h i n)) (kid h i n) n (by omega) (by rw [swapL_len]; exact hn) (down_step hn e hi hl)
        refine ⟨this.1, this.2.1.trans (swapL_perm (by omega) (by omega)), fun c hc => ?_⟩
        rw [this.2.2 c hc]
        by_cases hcl : c < h.length
        · rw [at0_swap hcl, if_neg (by omega), if_neg (by omega)]
        · unfold at0
          rw [List.getD_eq_getElem?_getD, List.getD_eq_getElem?_getD, List.getElem?_eq_none (by rw [swapL_len]; omega), List.getElem?_eq_none (by omega)]
      · rw [if_neg hl]
        refine ⟨fun c c0 cn => ?_, List.Perm.refl _, fun _ _ => rfl⟩
        by_cases e2 : (c - 1) / 2 = i
        · rw [e2]; exact lt_neg (k4 c c0 cn e2) hl
        · exact hi.1 c c0 cn e2
theorem downF_len : ∀ (k : Nat) (h : List RunT) (i n : Nat), (downF k h i n).length = h.length
  | 0, _, _, _ => rfl
  | k + 1, h, i, n => by
    unfold downF
    split
    · rfl
    · split
      · rw [downF_len, swapL_len]
      · rfl
theorem upF_len : ∀ (k : Nat) (h : List RunT) (j : Nat), (upF k h j).length = h.length
  | 0, _, _ => rfl
  | k + 1, h, j => by
    unfold upF
    split
    · rfl
    · split
      · rw [upF_len, swapL_len]
      · rfl
theorem heap_min {h : List RunT} {n : Nat} (hh : HeapN h n) : ∀ i, i < n → ¬ ltR (at0 h i) (at0 h 0) = true := by
  intro i
  induction i using Nat.strongRecOn with
  | ind i ih =>
    intro hi
    by_cases e : i = 0
    · subst e; exact lt_irr _
    · exact lt_neg (hh i (by omega) hi) (ih ((i - 1) / 2) (by omega) (by omega))

/-- one more -/
def pushH (h : List RunT) (r : RunT) : List RunT := upF (h.length + 1) (h ++ [r]) h.length
/-- the first one's place taken by the last one -/
def popD (h : List RunT) : List RunT := downF (h.length - 1) (swapL h 0 (h.length - 1)) 0 (h.length - 1)
def popH (h : List RunT) : List RunT := (popD h).take (h.length - 1)
def Heap (h : List RunT) : Prop := HeapN h h.length
theorem pushH_len (h : List RunT) (r : RunT) : (pushH h r).length = h.length + 1 := by unfold pushH; rw [upF_len]; simp
theorem pushH_spec {h : List RunT} {r : RunT} (hh : Heap h) : Heap (pushH h r) ∧ (pushH h r).Perm (h ++ [r]) := by
  have ha : ∀ i, i < h.length → at0 (h ++ [r]) i = at0 h i := fun i hi => by
    unfold at0; rw [List.getD_eq_getElem?_getD, List.getElem?_append_left hi, ← List.getD_eq_getElem?_getD]
  have := upF_spec (h.length + 1) (h ++ [r]) h.length (by omega) (by simp) ⟨fun i i0 il ie => ?_, fun c c0 cl cp => ?_⟩
  · refine ⟨?_, this.2⟩
    have h1 := this.1
    unfold Heap
    rw [pushH_len]
    rw [List.length_append] at h1
    exact h1
  · simp at il
    rw [ha i (by omega), ha _ (by omega)]
    exact hh i i0 (by omega)
  · simp at cl; omega
theorem popD_len (h : List RunT) : (popD h).length = h.length := by unfold popD; rw [downF_len, swapL_len]
theorem popH_len (h : List RunT) : (popH h).length = h.length - 1 := by unfold popH; rw [List.length_take, popD_len]; omega
theorem popD_eq {h : List RunT} (h0 : h ≠ []) (hh : Heap h) : popD h = popH h ++ [at0 h 0] ∧ Heap (popH h) ∧ (popH h ++ [at0 h 0]).Perm h := by
  have hl : 0 < h.length := List.length_pos_iff.2 h0
  have hs := downF_spec (h.length - 1) (swapL h 0 (h.length - 1)) 0 (h.length - 1) (by omega) (by rw [swapL_len]; omega) ⟨fun c c0 cn cp => ?_, fun c c0 cn cp h => absurd h (by omega)⟩
  · have e1 : popD h = popH h ++ [at0 h 0] := by
      have e2 : at0 (popD h) (h.length - 1) = at0 h 0 := by
        unfold popD
        rw [hs.2.2 _ (Nat.le_refl _), at0_swap (by omega), if_pos rfl]
      have e3 := List.take_append_drop (h.length - 1) (popD h)
      have hlt : h.length - 1 < (popD h).length := by rw [popD_len]; omega
      rw [List.drop_eq_getElem_cons hlt, ← at0_eq hlt, e2, List.drop_of_length_le (by rw [popD_len]; omega)] at e3
      exact e3.symm
    refine ⟨e1, fun i i0 il => ?_, ?_⟩
    · rw [popH_len] at il
      have ht : ∀ k, k < h.length - 1 → at0 (popH h) k = at0 (popD h) k := fun k hk => by
        unfold at0 popH; rw [List.getD_eq_getElem?_getD, List.getElem?_take_of_lt hk, ← List.getD_eq_getElem?_getD]
      rw [ht i il, ht _ (by omega)]
      exact hs.1 i i0 il
    · rw [← e1]
      exact hs.2.1.trans (swapL_perm (by omega) (by omega))
  · rw [at0_swap (by omega), at0_swap (by omega), if_neg (by omega), if_neg (by omega), if_neg (by omega), if_neg (by omega)]
    exact hh c c0 (by omega)
theorem heap_nil : Heap [] := fun i _ h => absurd h (Nat.not_lt_zero _)
theorem heap_first {h : List RunT} (h0 : h ≠ []) (hh : Heap h) : ∀ r ∈ h, ¬ ltR r (at0 h 0) = true := by
  intro r hr
  obtain ⟨i, hi, rfl⟩ := List.getElem_of_mem hr
  rw [← at0_eq hi]
  exact heap_min hh i hi
def NE (h : List RunT) : Prop := ∀ r ∈ h, r.2 ≠ []
theorem NE.perm {a b : List RunT} (h : NE b) (p : a.Perm b) : NE a := fun r hr => h r (p.subset hr)
end Go.Proofs.Ytldckdbdgbpmpaa
