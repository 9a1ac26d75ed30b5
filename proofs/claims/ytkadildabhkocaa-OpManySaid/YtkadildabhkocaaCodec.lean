/- Proved here: what functions of the program compute, and plain laws. No condition. -/
import Derived.Test.YtkadildabhkocaaPutT
set_option linter.unusedSimpArgs false
set_option linter.unusedVariables false
namespace Go.Proofs.Ytkadildabhkocaa
open Go Go.AM

/-! ## lists, one behind the other -/
def fl {α : Type} (f : α → List UInt8) (l : List α) : List UInt8 := (l.map f).flatten
theorem fl_snoc {α : Type} (f : α → List UInt8) (l : List α) (x : α) : fl f (l ++ [x]) = fl f l ++ f x := by simp [fl]
theorem fl_cons {α : Type} (f : α → List UInt8) (l : List α) (x : α) : fl f (x :: l) = f x ++ fl f l := by simp [fl]
theorem fl_nil {α : Type} (f : α → List UInt8) : fl f [] = [] := rfl
theorem fl_app {α : Type} (f : α → List UInt8) (l m : List α) : fl f (l ++ m) = fl f l ++ fl f m := by simp [fl]
theorem fl_len {α : Type} (f : α → List UInt8) (k : Nat) : ∀ (l : List α), (∀ x ∈ l, (f x).length ≤ k) → (fl f l).length ≤ l.length * k
  | [], _ => by simp [fl]
  | x :: l, h => by
    have h1 := fl_len f k l fun y hy => h y (by simp [hy])
    have h2 := h x (by simp)
    rw [fl_cons, List.length_append, List.length_cons, Nat.add_mul]; omega

/-- a text at the head of bytes -/
def takeText (bs : List UInt8) : Option (List UInt8 × List UInt8) :=
  match takeNum bs with
  | none => none
  | some (n, r) => if r.length < n then none else some (r.take n, r.drop n)
theorem takeText_some {bs s r : List UInt8} (h : takeText bs = some (s, r)) : bs = lebT s ++ r ∧ s.length < 18446744073709551616 := by
  unfold takeText at h
  split at h
  · cases h
  · rename_i n t hk
    obtain ⟨h1, h2⟩ := takeNum_some hk
    split at h
    · cases h
    · rename_i hlt
      simp only [Option.some.injEq, Prod.mk.injEq] at h
      obtain ⟨rfl, rfl⟩ := h
      have hl : (t.take n).length = n := by rw [List.length_take]; omega
      refine ⟨?_, by rw [hl]; exact h1⟩
      unfold lebT
      rw [hl, List.append_assoc, List.take_append_drop, h2]
theorem takeText_lebT (s r : List UInt8) (h : s.length < 18446744073709551616) : takeText (lebT s ++ r) = some (s, r) := by
  unfold takeText lebT
  rw [List.append_assoc, takeNum_leb _ _ h]
  simp

section
variable {α : Type} (enc : α → List UInt8) (dec : List UInt8 → Option (α × List UInt8))
def decN : Nat → List UInt8 → Option (List α × List UInt8)
  | 0, bs => some ([], bs)
  | n + 1, bs => match dec bs with
    | none => none
    | some (x, r) => match decN n r with
      | none => none
      | some (l, r') => some (x :: l, r')
theorem decN_some (hd : ∀ bs x r, dec bs = some (x, r) → bs = enc x ++ r) : ∀ (n : Nat) (bs : List UInt8) (l : List α) (r : List UInt8), decN dec n bs = some (l, r) → l.length = n ∧ bs = fl enc l ++ r
  | 0, bs, l, r, h => by
    simp only [decN, Option.some.injEq, Prod.mk.injEq] at h
    obtain ⟨rfl, rfl⟩ := h
    exact ⟨rfl, rfl⟩
  | n + 1, bs, l, r, h => by
    simp only [decN] at h
    split at h
    · cases h
    · rename_i x r1 hx
      split at h
      · cases h
      · rename_i l1 r2 hl
        simp only [Option.some.injEq, Prod.mk.injEq] at h
        obtain ⟨rfl, rfl⟩ := h
        obtain ⟨e1, e2⟩ := decN_some hd n r1 l1 r2 hl
        refine ⟨by simp [e1], ?_⟩
        rw [hd _ _ _ hx, e2, fl_cons, List.append_assoc]
theorem decN_enc : ∀ (l : List α) (r : List UInt8), (∀ x ∈ l, ∀ r, dec (enc x ++ r) = some (x, r)) → decN dec l.length (fl enc l ++ r) = some (l, r)
  | [], r, _ => rfl
  | x :: l, r, h => by
    simp only [List.length_cons, decN, fl_cons, List.append_assoc, h x (by simp)]
    rw [decN_enc l r fun y hy => h y (by simp [hy])]

/-- a list: how many, and each -/
def putL (l : List α) : List UInt8 := leb l.length ++ fl enc l
def takeL (ok : List α → Bool) (m : Nat) (bs : List UInt8) : Option (List α × List UInt8) :=
  match takeNum bs with
  | none => none
  | some (n, r) => if n ≤ m then (match decN dec n r with
    | none => none
    | some (l, r') => if ok l = true then some (l, r') else none) else none
theorem takeL_some {ok : List α → Bool} {m : Nat} (hd : ∀ bs x r, dec bs = some (x, r) → bs = enc x ++ r) {bs : List UInt8} {l : List α} {r : List UInt8} (h : takeL dec ok m bs = some (l, r)) : ok l = true ∧ bs = putL enc l ++ r := by
  unfold takeL at h
  split at h
  · cases h
  · rename_i n s hk
    obtain ⟨h1, h2⟩ := takeNum_some hk
    split at h
    · split at h
      · cases h
      · rename_i l1 r1 hl
        split at h
        · rename_i hok
          simp only [Option.some.injEq, Prod.mk.injEq] at h
          obtain ⟨rfl, rfl⟩ := h
          obtain ⟨e1, e2⟩ := decN_some enc dec hd n s l1 r1 hl
          exact ⟨hok, by unfold putL; rw [e1, List.append_assoc, ← e2, h2]⟩
        · cases h
    · cases h
theorem takeL_put {ok : List α → Bool} {m : Nat} {l : List α} (r : List UInt8) (hok : ok l = true) (hm : l.length ≤ m) (hm2 : m < 18446744073709551616) (hd : ∀ x ∈ l, ∀ r, dec (enc x ++ r) = some (x, r)) : takeL dec ok m (putL enc l ++ r) = some (l, r) := by
  unfold takeL putL
  rw [List.append_assoc, takeNum_leb _ _ (by omega)]
  simp only [hm, if_true, decN_enc enc dec l r hd, hok]
end
end Go.Proofs.Ytkadildabhkocaa
