/- Proved here: what functions of the program compute, and plain laws. No condition. -/
import Derived.Test.YtkadildabhkocaaRPut
set_option linter.unusedSimpArgs false
set_option linter.unusedVariables false
namespace Go.Proofs.Ytkadildabhkocaa
open Go Go.AM

/-! ## numbers by sevens -/
def isC (b : UInt8) : Bool := decide (128 ≤ b.toNat)
def val : List UInt8 → Nat
  | [] => 0
  | b :: bs => b.toNat % 128 + 128 * val bs

theorem u8ofNat (n : Nat) (h : n < 256) : (UInt8.ofNat n).toNat = n := by simp; omega

theorem val_leb : ∀ n, val (leb n) = n := by
  intro n
  induction n using Nat.strongRecOn with
  | _ n ih =>
    rw [leb]
    split
    · rename_i h
      simp only [val, u8ofNat n (by omega)]; omega
    · rename_i h
      simp only [val]
      rw [ih (n / 128) (by omega), u8ofNat _ (by omega)]; omega

theorem leb_shape : ∀ n, ∃ p c, leb n = p ++ [c] ∧ p.all isC = true ∧ c.toNat < 128 ∧ (p ≠ [] → c.toNat ≠ 0) := by
  intro n
  induction n using Nat.strongRecOn with
  | _ n ih =>
    rw [leb]
    split
    · rename_i h
      exact ⟨[], UInt8.ofNat n, rfl, rfl, by rw [u8ofNat n (by omega)]; exact h, fun h => absurd rfl h⟩
    · rename_i h
      obtain ⟨p, c, h1, h2, h3, h4⟩ := ih (n / 128) (by omega)
      refine ⟨UInt8.ofNat (n % 128 + 128) :: p, c, by rw [h1]; rfl, ?_, h3, fun _ => ?_⟩
      · simp only [List.all_cons, h2, Bool.and_true, isC, decide_eq_true_eq, u8ofNat _ (show n % 128 + 128 < 256 by omega)]; omega
      · by_cases hp : p = []
        · subst hp
          intro hc
          have := val_leb (n / 128)
          rw [h1] at this
          simp only [List.nil_append, val, hc] at this
          omega
        · exact h4 hp

theorem val_snoc : ∀ (p : List UInt8) (c : UInt8), val (p ++ [c]) = val p + 128 ^ p.length * (c.toNat % 128)
  | [], c => by simp [val]
  | b :: p, c => by
    simp only [List.cons_append, val, val_snoc p c, List.length_cons, Nat.pow_succ]
    rw [Nat.mul_add, Nat.mul_comm (128 ^ p.length) 128, Nat.mul_assoc]; omega

theorem val_lt : ∀ (p : List UInt8), val p < 128 ^ p.length
  | [] => by simp [val]
  | b :: p => by
    have := val_lt p
    simp only [val, List.length_cons, Nat.pow_succ]
    have := Nat.mod_lt b.toNat (show 0 < 128 by omega)
    omega

theorem leb_val : ∀ (p : List UInt8) (c : UInt8), p.all isC = true → c.toNat < 128 → (p ≠ [] → c.toNat ≠ 0) → leb (val (p ++ [c])) = p ++ [c]
  | [], c, _, hc, _ => by
    have e : val [c] = c.toNat := by simp only [val]; omega
    rw [List.nil_append, e, leb, if_pos hc]
    simp
  | b :: p, c, hp, hc, h0 => by
    simp only [List.all_cons, Bool.and_eq_true] at hp
    have hb : 128 ≤ b.toNat := of_decide_eq_true hp.1
    have hb2 := b.toNat_lt
    have ih := leb_val p c hp.2 hc (fun _ => h0 (by simp))
    have hne : val (p ++ [c]) ≠ 0 := by
      rw [val_snoc, Nat.mod_eq_of_lt hc]
      have h1 : 0 < 128 ^ p.length := Nat.pow_pos (by omega)
      have h2 : 0 < c.toNat := Nat.pos_of_ne_zero (h0 (by simp))
      have := Nat.mul_pos h1 h2
      omega
    simp only [List.cons_append]
    have e : val (b :: (p ++ [c])) = b.toNat % 128 + 128 * val (p ++ [c]) := rfl
    rw [e, leb, if_neg (by omega)]
    have e1 : (b.toNat % 128 + 128 * val (p ++ [c])) / 128 = val (p ++ [c]) := by omega
    have e2 : (b.toNat % 128 + 128 * val (p ++ [c])) % 128 + 128 = b.toNat := by omega
    rw [e1, e2, ih]
    simp

/-- what a number is at the head of bytes, and what is behind it -/
def takeNum (bs : List UInt8) : Option (Nat × List UInt8) :=
  match bs.dropWhile isC with
  | [] => none
  | c :: r => if (bs.takeWhile isC = [] ∨ c.toNat ≠ 0) ∧ val (bs.takeWhile isC ++ [c]) < 18446744073709551616 then some (val (bs.takeWhile isC ++ [c]), r) else none

theorem isC_span (p : List UInt8) (c : UInt8) (r : List UInt8) (hp : p.all isC = true) (hc : c.toNat < 128) : (p ++ c :: r).takeWhile isC = p ∧ (p ++ c :: r).dropWhile isC = c :: r := by
  have hcc : isC c = false := by simp [isC]; omega
  rw [List.all_eq_true] at hp
  exact ⟨by rw [List.takeWhile_append_of_pos hp, List.takeWhile_cons_of_neg (by simp [hcc]), List.append_nil], by rw [List.dropWhile_append_of_pos hp, List.dropWhile_cons_of_neg (by simp [hcc])]⟩

theorem takeNum_at (p : List UInt8) (c : UInt8) (r : List UInt8) (hp : p.all isC = true) (hc : c.toNat < 128) :
    takeNum (p ++ c :: r) = if (p = [] ∨ c.toNat ≠ 0) ∧ val (p ++ [c]) < 18446744073709551616 then some (val (p ++ [c]), r) else none := by
  obtain ⟨h1, h2⟩ := isC_span p c r hp hc
  unfold takeNum
  rw [h1, h2]

theorem takeNum_all (p : List UInt8) (hp : p.all isC = true) : takeNum p = none := by
  rw [List.all_eq_true] at hp
  unfold takeNum
  have : p.dropWhile isC = [] := by
    have := List.dropWhile_append_of_pos hp (l₂ := [])
    simpa using this
  rw [this]

theorem takeNum_leb (n : Nat) (r : List UInt8) (hn : n < 18446744073709551616) : takeNum (leb n ++ r) = some (n, r) := by
  obtain ⟨p, c, h1, h2, h3, h4⟩ := leb_shape n
  have e := val_leb n
  rw [h1] at e
  have h5 : p = [] ∨ c.toNat ≠ 0 := by
    by_cases hp : p = []
    · exact .inl hp
    · exact .inr (h4 hp)
  rw [h1, List.append_assoc, List.singleton_append, takeNum_at p c r h2 h3, e, if_pos ⟨h5, hn⟩]

theorem takeNum_some {bs : List UInt8} {n : Nat} {r : List UInt8} (h : takeNum bs = some (n, r)) : n < 18446744073709551616 ∧ bs = leb n ++ r := by
  have hb : bs.takeWhile isC ++ bs.dropWhile isC = bs := List.takeWhile_append_dropWhile
  have hp : (bs.takeWhile isC).all isC = true := List.all_takeWhile
  unfold takeNum at h
  split at h
  · cases h
  · rename_i c r' hd
    split at h
    · rename_i hc
      simp only [Option.some.injEq, Prod.mk.injEq] at h
      obtain ⟨rfl, rfl⟩ := h
      have hcc : c.toNat < 128 := by
        have := List.head?_dropWhile_not isC bs
        rw [hd] at this
        simp [isC] at this; omega
      refine ⟨hc.2, ?_⟩
      rw [leb_val _ _ hp hcc (fun hne => hc.1.resolve_left hne), List.append_assoc, List.singleton_append, ← hd, hb]
    · cases h

theorem leb_ten (n : Nat) (hn : n < 18446744073709551616) : (leb n).length ≤ 10 := leb_len 9 n (by omega)

/-- ten that go on, or nine and more than one behind, are no number -/
theorem takeNum_long (p : List UInt8) (r : List UInt8) (hp : p.all isC = true) (hl : 10 ≤ p.length) : takeNum (p ++ r) = none := by
  rcases h : takeNum (p ++ r) with _ | ⟨n, s⟩
  · rfl
  · obtain ⟨h1, h2⟩ := takeNum_some h
    exfalso
    have h3 := leb_ten n h1
    obtain ⟨q, c, e1, e2, e3, e4⟩ := leb_shape n
    rw [e1] at h2 h3
    simp at h3
    have g : (p ++ r)[q.length]? = some c := by rw [h2]; simp
    rw [List.getElem?_append_left (by omega)] at g
    have := List.all_eq_true.1 hp c (List.mem_of_getElem? g)
    simp [isC] at this; omega

theorem takeNum_nine (p : List UInt8) (c : UInt8) (r : List UInt8) (hp : p.all isC = true) (hl : p.length = 9) (hc : 1 < c.toNat) : takeNum (p ++ c :: r) = none := by
  by_cases h : 128 ≤ c.toNat
  · have := takeNum_long (p ++ [c]) r (by simp [hp, isC, h]) (by simp [hl])
    simpa using this
  · rw [takeNum_at p c r hp (by omega), if_neg]
    intro ⟨_, h2⟩
    rw [val_snoc, hl, Nat.mod_eq_of_lt (by omega)] at h2
    omega

theorem leb_prefix_free {n m : Nat} {r s : List UInt8} (hn : n < 18446744073709551616) (hm : m < 18446744073709551616) (h : leb n ++ r = leb m ++ s) : n = m ∧ r = s := by
  have h1 := takeNum_leb n r hn
  rw [h, takeNum_leb m s hm] at h1
  simp only [Option.some.injEq, Prod.mk.injEq] at h1
  exact ⟨h1.1.symm, h1.2.symm⟩
end Go.Proofs.Ytkadildabhkocaa
