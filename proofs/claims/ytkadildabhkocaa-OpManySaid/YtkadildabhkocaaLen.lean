/- Proved here: what functions of the program compute, and plain laws. No condition. -/
import Derived.Test.YtkadildabhkocaaLeb
set_option linter.unusedSimpArgs false
set_option linter.unusedVariables false
namespace Go.Proofs.Ytkadildabhkocaa
open Go Go.AM

/-! ## the number of bits -/
def bl (n : Nat) : Nat := if n = 0 then 0 else n.log2 + 1
theorem bl_le (n k : Nat) : bl n ≤ k ↔ n < 2 ^ k := by
  unfold bl
  split
  · rename_i h; subst h; simp [Nat.pow_pos]
  · rename_i h
    rw [← Nat.log2_lt h]; omega
theorem bl_shift (n k : Nat) (h : 2 ^ k ≤ n) : bl n = bl (n / 2 ^ k) + k := by
  have hk : 0 < 2 ^ k := Nat.pow_pos (by omega)
  apply Nat.le_antisymm
  · rw [bl_le]
    have := (bl_le (n / 2 ^ k) _).1 (Nat.le_refl _)
    rw [Nat.pow_add]
    exact (Nat.div_lt_iff_lt_mul hk).1 this
  · have h0 : n / 2 ^ k ≠ 0 := by
      have := Nat.div_pos h hk; omega
    have h1 : k < bl n := by
      rcases Nat.lt_or_ge k (bl n) with h1 | h1
      · exact h1
      · have := (bl_le n k).1 h1; omega
    have : bl (n / 2 ^ k) ≤ bl n - k := by
      rw [bl_le]
      have := (bl_le n _).1 (Nat.le_refl _)
      rw [Nat.div_lt_iff_lt_mul hk, ← Nat.pow_add]
      rwa [show bl n - k + k = bl n from by omega]
    omega
theorem tab_eq : ∀ m, m < 256 → ([0, 1, 2, 2, 3, 3, 3, 3, 4, 4, 4, 4, 4, 4, 4, 4, 5, 5, 5, 5, 5, 5, 5, 5, 5, 5, 5, 5, 5, 5, 5, 5, 6, 6, 6, 6, 6, 6, 6, 6, 6, 6, 6, 6, 6, 6, 6, 6, 6, 6, 6, 6, 6, 6, 6, 6, 6, 6, 6, 6, 6, 6, 6, 6, 7, 7, 7, 7, 7, 7, 7, 7, 7, 7, 7, 7, 7, 7, 7, 7, 7, 7, 7, 7, 7, 7, 7, 7, 7, 7, 7, 7, 7, 7, 7, 7, 7, 7, 7, 7, 7, 7, 7, 7, 7, 7, 7, 7, 7, 7, 7, 7, 7, 7, 7, 7, 7, 7, 7, 7, 7, 7, 7, 7, 7, 7, 7, 7, 8, 8, 8, 8, 8, 8, 8, 8, 8, 8, 8, 8, 8, 8, 8, 8, 8, 8, 8, 8, 8, 8, 8, 8, 8, 8, 8, 8, 8, 8, 8, 8, 8, 8, 8, 8, 8, 8, 8, 8, 8, 8, 8, 8, 8, 8, 8, 8, 8, 8, 8, 8, 8, 8, 8, 8, 8, 8, 8, 8, 8, 8, 8, 8, 8, 8, 8, 8, 8, 8, 8, 8, 8, 8, 8, 8, 8, 8, 8, 8, 8, 8, 8, 8, 8, 8, 8, 8, 8, 8, 8, 8, 8, 8, 8, 8, 8, 8, 8, 8, 8, 8, 8, 8, 8, 8, 8, 8, 8, 8, 8, 8, 8, 8, 8, 8, 8, 8, 8, 8, 8, 8, 8, 8, 8, 8, 8, 8] : List UInt8).getD m 0 = UInt8.ofNat (bl m) := by decide +kernel

theorem sr64n (n k : Nat) (hk : k ≤ 64) : (n : Int).fdiv (2 ^ min k IntKind.u64.bits) = ((n / 2 ^ k : Nat) : Int) := by
  show (n : Int).fdiv (2 ^ min k 64) = _
  rw [Nat.min_eq_left hk, fdiv_nat, Nat.shiftRight_eq_div_pow]

theorem bl8 (m : Nat) (h : m < 256) : bl m ≤ 8 := (bl_le m 8).2 (by omega)
theorem bl_u8 (m : Nat) (h : m < 256) : ((UInt8.ofNat (bl m)).toNat : Int) = bl m := by
  have := bl8 m h
  rw [u8ofNat _ (by omega)]

theorem i64c : IntKind.i64.wrap 0 = 0 ∧ IntKind.i64.wrap 8 = 8 ∧ IntKind.i64.wrap 16 = 16 ∧ IntKind.i64.wrap 24 = 24 ∧ IntKind.i64.wrap 32 = 32 ∧ IntKind.i64.wrap 40 = 40 ∧ IntKind.i64.wrap 48 = 48 ∧ IntKind.i64.wrap 56 = 56 := by decide
set_option maxRecDepth 20000 in
theorem len64 (n : Nat) (hn : n < 18446744073709551616) : AFun Try.prog 65 [u64 n] [] (int (bl n)) [] := by
  refine AFun.of_walk hP Try.func65 rfl rfl rfl (by simp) rfl ?_
  rcases Nat.lt_or_ge (n) 4294967296 with h0 | h0
  · have g0 : ¬ ((4294967296 : Int) ≤ ((n : Nat) : Int)) := by omega
    rcases Nat.lt_or_ge (n) 65536 with h1 | h1
    · have g1 : ¬ ((65536 : Int) ≤ ((n : Nat) : Int)) := by omega
      rcases Nat.lt_or_ge (n) 256 with h2 | h2
      · have g2 : ¬ ((256 : Int) ≤ ((n : Nat) : Int)) := by omega
        have hm : n < 256 := by omega
        have hb := bl8 (n) hm
        have w1 : IntKind.u8.wrap ((n : Nat) : Int) = ((n : Nat) : Int) := by rw [IntKind.wrap_u8]; omega
        have w2 : IntKind.i64.wrap ((bl (n) : Nat) : Int) = bl (n) := IntWalk.i64_in _ (by omega)
        have w3 : IntKind.i64.wrap ((0 : Int) + bl (n)) = bl n := by rw [IntWalk.i64_in _ (by omega)]; omega
        simp only [Try.f65, u64, sr64n _ 32 (by omega), sr64n _ 16 (by omega), sr64n _ 8 (by omega), g0, g1, g2, w1, w2, w3, bl_size, Int.natCast_nonneg, Int.toNat_natCast, tab_eq _ hm, bl_u8 _ hm, i64c, List.append_eq, List.length_cons, List.length_nil, FinR, evRes, evRVs, evRV, am, simprocAttr, tys]
        exact ⟨by omega, _, [], [], rfl, Ent.plain rfl rfl rfl trivial rfl, rfl, rfl⟩
      · have g2 : ((256 : Int) ≤ ((n : Nat) : Int)) := by omega
        have b2 := bl_shift (n) 8 (by omega)
        have hm : n / 2 ^ 8 < 256 := by omega
        have hb := bl8 (n / 2 ^ 8) hm
        have w1 : IntKind.u8.wrap ((n / 2 ^ 8 : Nat) : Int) = ((n / 2 ^ 8 : Nat) : Int) := by rw [IntKind.wrap_u8]; omega
        have w2 : IntKind.i64.wrap ((bl (n / 2 ^ 8) : Nat) : Int) = bl (n / 2 ^ 8) := IntWalk.i64_in _ (by omega)
        have w3 : IntKind.i64.wrap ((8 : Int) + bl (n / 2 ^ 8)) = bl n := by rw [IntWalk.i64_in _ (by omega)]; omega
        simp only [Try.f65, u64, sr64n _ 32 (by omega), sr64n _ 16 (by omega), sr64n _ 8 (by omega), g0, g1, g2, w1, w2, w3, bl_size, Int.natCast_nonneg, Int.toNat_natCast, tab_eq _ hm, bl_u8 _ hm, i64c, List.append_eq, List.length_cons, List.length_nil, FinR, evRes, evRVs, evRV, am, simprocAttr, tys]
        exact ⟨by omega, _, [], [], rfl, Ent.plain rfl rfl rfl trivial rfl, rfl, rfl⟩
    · have g1 : ((65536 : Int) ≤ ((n : Nat) : Int)) := by omega
      have b1 := bl_shift (n) 16 (by omega)
      rcases Nat.lt_or_ge (n / 2 ^ 16) 256 with h2 | h2
      · have g2 : ¬ ((256 : Int) ≤ ((n / 2 ^ 16 : Nat) : Int)) := by omega
        have hm : n / 2 ^ 16 < 256 := by omega
        have hb := bl8 (n / 2 ^ 16) hm
        have w1 : IntKind.u8.wrap ((n / 2 ^ 16 : Nat) : Int) = ((n / 2 ^ 16 : Nat) : Int) := by rw [IntKind.wrap_u8]; omega
        have w2 : IntKind.i64.wrap ((bl (n / 2 ^ 16) : Nat) : Int) = bl (n / 2 ^ 16) := IntWalk.i64_in _ (by omega)
        have w3 : IntKind.i64.wrap ((16 : Int) + bl (n / 2 ^ 16)) = bl n := by rw [IntWalk.i64_in _ (by omega)]; omega
        simp only [Try.f65, u64, sr64n _ 32 (by omega), sr64n _ 16 (by omega), sr64n _ 8 (by omega), g0, g1, g2, w1, w2, w3, bl_size, Int.natCast_nonneg, Int.toNat_natCast, tab_eq _ hm, bl_u8 _ hm, i64c, List.append_eq, List.length_cons, List.length_nil, FinR, evRes, evRVs, evRV, am, simprocAttr, tys]
        exact ⟨by omega, _, [], [], rfl, Ent.plain rfl rfl rfl trivial rfl, rfl, rfl⟩
      · have g2 : ((256 : Int) ≤ ((n / 2 ^ 16 : Nat) : Int)) := by omega
        have b2 := bl_shift (n / 2 ^ 16) 8 (by omega)
        have hm : (n / 2 ^ 16) / 2 ^ 8 < 256 := by omega
        have hb := bl8 ((n / 2 ^ 16) / 2 ^ 8) hm
        have w1 : IntKind.u8.wrap (((n / 2 ^ 16) / 2 ^ 8 : Nat) : Int) = (((n / 2 ^ 16) / 2 ^ 8 : Nat) : Int) := by rw [IntKind.wrap_u8]; omega
        have w2 : IntKind.i64.wrap ((bl ((n / 2 ^ 16) / 2 ^ 8) : Nat) : Int) = bl ((n / 2 ^ 16) / 2 ^ 8) := IntWalk.i64_in _ (by omega)
        have w3 : IntKind.i64.wrap ((24 : Int) + bl ((n / 2 ^ 16) / 2 ^ 8)) = bl n := by rw [IntWalk.i64_in _ (by omega)]; omega
        simp only [Try.f65, u64, sr64n _ 32 (by omega), sr64n _ 16 (by omega), sr64n _ 8 (by omega), g0, g1, g2, w1, w2, w3, bl_size, Int.natCast_nonneg, Int.toNat_natCast, tab_eq _ hm, bl_u8 _ hm, i64c, List.append_eq, List.length_cons, List.length_nil, FinR, evRes, evRVs, evRV, am, simprocAttr, tys]
        exact ⟨by omega, _, [], [], rfl, Ent.plain rfl rfl rfl trivial rfl, rfl, rfl⟩
  · have g0 : ((4294967296 : Int) ≤ ((n : Nat) : Int)) := by omega
    have b0 := bl_shift (n) 32 (by omega)
    rcases Nat.lt_or_ge (n / 2 ^ 32) 65536 with h1 | h1
    · have g1 : ¬ ((65536 : Int) ≤ ((n / 2 ^ 32 : Nat) : Int)) := by omega
      rcases Nat.lt_or_ge (n / 2 ^ 32) 256 with h2 | h2
      · have g2 : ¬ ((256 : Int) ≤ ((n / 2 ^ 32 : Nat) : Int)) := by omega
        have hm : n / 2 ^ 32 < 256 := by omega
        have hb := bl8 (n / 2 ^ 32) hm
        have w1 : IntKind.u8.wrap ((n / 2 ^ 32 : Nat) : Int) = ((n / 2 ^ 32 : Nat) : Int) := by rw [IntKind.wrap_u8]; omega
        have w2 : IntKind.i64.wrap ((bl (n / 2 ^ 32) : Nat) : Int) = bl (n / 2 ^ 32) := IntWalk.i64_in _ (by omega)
        have w3 : IntKind.i64.wrap ((32 : Int) + bl (n / 2 ^ 32)) = bl n := by rw [IntWalk.i64_in _ (by omega)]; omega
        simp only [Try.f65, u64, sr64n _ 32 (by omega), sr64n _ 16 (by omega), sr64n _ 8 (by omega), g0, g1, g2, w1, w2, w3, bl_size, Int.natCast_nonneg, Int.toNat_natCast, tab_eq _ hm, bl_u8 _ hm, i64c, List.append_eq, List.length_cons, List.length_nil, FinR, evRes, evRVs, evRV, am, simprocAttr, tys]
        exact ⟨by omega, _, [], [], rfl, Ent.plain rfl rfl rfl trivial rfl, rfl, rfl⟩
      · have g2 : ((256 : Int) ≤ ((n / 2 ^ 32 : Nat) : Int)) := by omega
        have b2 := bl_shift (n / 2 ^ 32) 8 (by omega)
        have hm : (n / 2 ^ 32) / 2 ^ 8 < 256 := by omega
        have hb := bl8 ((n / 2 ^ 32) / 2 ^ 8) hm
        have w1 : IntKind.u8.wrap (((n / 2 ^ 32) / 2 ^ 8 : Nat) : Int) = (((n / 2 ^ 32) / 2 ^ 8 : Nat) : Int) := by rw [IntKind.wrap_u8]; omega
        have w2 : IntKind.i64.wrap ((bl ((n / 2 ^ 32) / 2 ^ 8) : Nat) : Int) = bl ((n / 2 ^ 32) / 2 ^ 8) := IntWalk.i64_in _ (by omega)
        have w3 : IntKind.i64.wrap ((40 : Int) + bl ((n / 2 ^ 32) / 2 ^ 8)) = bl n := by rw [IntWalk.i64_in _ (by omega)]; omega
        simp only [Try.f65, u64, sr64n _ 32 (by omega), sr64n _ 16 (by omega), sr64n _ 8 (by omega), g0, g1, g2, w1, w2, w3, bl_size, Int.natCast_nonneg, Int.toNat_natCast, tab_eq _ hm, bl_u8 _ hm, i64c, List.append_eq, List.length_cons, List.length_nil, FinR, evRes, evRVs, evRV, am, simprocAttr, tys]
        exact ⟨by omega, _, [], [], rfl, Ent.plain rfl rfl rfl trivial rfl, rfl, rfl⟩
    · have g1 : ((65536 : Int) ≤ ((n / 2 ^ 32 : Nat) : Int)) := by omega
      have b1 := bl_shift (n / 2 ^ 32) 16 (by omega)
      rcases Nat.lt_or_ge ((n / 2 ^ 32) / 2 ^ 16) 256 with h2 | h2
      · have g2 : ¬ ((256 : Int) ≤ (((n / 2 ^ 32) / 2 ^ 16 : Nat) : Int)) := by omega
        have hm : (n / 2 ^ 32) / 2 ^ 16 < 256 := by omega
        have hb := bl8 ((n / 2 ^ 32) / 2 ^ 16) hm
        have w1 : IntKind.u8.wrap (((n / 2 ^ 32) / 2 ^ 16 : Nat) : Int) = (((n / 2 ^ 32) / 2 ^ 16 : Nat) : Int) := by rw [IntKind.wrap_u8]; omega
        have w2 : IntKind.i64.wrap ((bl ((n / 2 ^ 32) / 2 ^ 16) : Nat) : Int) = bl ((n / 2 ^ 32) / 2 ^ 16) := IntWalk.i64_in _ (by omega)
        have w3 : IntKind.i64.wrap ((48 : Int) + bl ((n / 2 ^ 32) / 2 ^ 16)) = bl n := by rw [IntWalk.i64_in _ (by omega)]; omega
        simp only [Try.f65, u64, sr64n _ 32 (by omega), sr64n _ 16 (by omega), sr64n _ 8 (by omega), g0, g1, g2, w1, w2, w3, bl_size, Int.natCast_nonneg, Int.toNat_natCast, tab_eq _ hm, bl_u8 _ hm, i64c, List.append_eq, List.length_cons, List.length_nil, FinR, evRes, evRVs, evRV, am, simprocAttr, tys]
        exact ⟨by omega, _, [], [], rfl, Ent.plain rfl rfl rfl trivial rfl, rfl, rfl⟩
      · have g2 : ((256 : Int) ≤ (((n / 2 ^ 32) / 2 ^ 16 : Nat) : Int)) := by omega
        have b2 := bl_shift ((n / 2 ^ 32) / 2 ^ 16) 8 (by omega)
        have hm : ((n / 2 ^ 32) / 2 ^ 16) / 2 ^ 8 < 256 := by omega
        have hb := bl8 (((n / 2 ^ 32) / 2 ^ 16) / 2 ^ 8) hm
        have w1 : IntKind.u8.wrap ((((n / 2 ^ 32) / 2 ^ 16) / 2 ^ 8 : Nat) : Int) = ((((n / 2 ^ 32) / 2 ^ 16) / 2 ^ 8 : Nat) : Int) := by rw [IntKind.wrap_u8]; omega
        have w2 : IntKind.i64.wrap ((bl (((n / 2 ^ 32) / 2 ^ 16) / 2 ^ 8) : Nat) : Int) = bl (((n / 2 ^ 32) / 2 ^ 16) / 2 ^ 8) := IntWalk.i64_in _ (by omega)
        have w3 : IntKind.i64.wrap ((56 : Int) + bl (((n / 2 ^ 32) / 2 ^ 16) / 2 ^ 8)) = bl n := by rw [IntWalk.i64_in _ (by omega)]; omega
        simp only [Try.f65, u64, sr64n _ 32 (by omega), sr64n _ 16 (by omega), sr64n _ 8 (by omega), g0, g1, g2, w1, w2, w3, bl_size, Int.natCast_nonneg, Int.toNat_natCast, tab_eq _ hm, bl_u8 _ hm, i64c, List.append_eq, List.length_cons, List.length_nil, FinR, evRes, evRVs, evRV, am, simprocAttr, tys]
        exact ⟨by omega, _, [], [], rfl, Ent.plain rfl rfl rfl trivial rfl, rfl, rfl⟩
end Go.Proofs.Ytkadildabhkocaa
