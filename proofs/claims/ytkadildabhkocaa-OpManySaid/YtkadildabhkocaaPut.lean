/- Proved here: what functions of the program compute, and plain laws. No condition. -/
import Derived.Test.YtkadildabhkocaaBase
set_option linter.unusedSimpArgs false
set_option linter.unusedVariables false
namespace Go.Proofs.Ytkadildabhkocaa
open Go Go.AM

def leb (n : Nat) : List UInt8 := if n < 128 then [UInt8.ofNat n] else UInt8.ofNat (n % 128 + 128) :: leb (n / 128)
  decreasing_by omega

theorem or128 (n : Nat) : evBits .or .u8 (IntKind.u8.wrap (n : Int)) 128 = ((UInt8.ofNat (n % 128 + 128)).toNat : Int) := by
  have key : ∀ m, m < 256 → (BitVec.ofNat 8 m ||| 128#8).toNat = m % 128 + 128 := by decide +kernel
  have e : IntKind.u8.wrap (n : Int) = (((BitVec.ofNat 8 (n % 256)).toNat : Nat) : Int) := by rw [IntKind.wrap_u8]; simp
  have e2 : (128 : Int) = (((128#8).toNat : Nat) : Int) := rfl
  rw [e, e2, o8, key _ (Nat.mod_lt _ (by omega))]
  simp; omega
theorem low8 (n : Nat) (h : n < 128) : IntKind.u8.wrap (n : Int) = ((UInt8.ofNat n).toNat : Int) := by
  rw [IntKind.wrap_u8]
  have : (UInt8.ofNat n).toNat = n := by simp; omega
  rw [this]; omega
theorem shr7 (n : Nat) : (n : Int).fdiv (2 ^ min 7 IntKind.u64.bits) = ((n / 128 : Nat) : Int) := by
  show (n : Int).fdiv (2 ^ 7) = _
  rw [fdiv_nat, Nat.shiftRight_eq_div_pow]

theorem leb_len : ∀ (k n : Nat), n < 128 ^ (k + 1) → (leb n).length ≤ k + 1
  | 0, n, h => by
    rw [leb, if_pos (by simpa using h)]; simp
  | k + 1, n, h => by
    rw [leb]
    split
    · simp
    · simp only [List.length_cons]
      have := leb_len k (n / 128) (by rw [Nat.pow_succ] at h; omega)
      omega

theorem leb_pos (n : Nat) : 0 < (leb n).length := by rw [leb]; split <;> simp

theorem octsPut (bs : List UInt8) (n : Nat) (hl : bs.length ≤ 100000000000000) (hn : n < 18446744073709551616) :
    AFun Try.prog 40 [.d (.sl 1 (bs.map encB)), .d (.lit (.int .u64 n))] [] (.own 0) [.own 1 ((bs ++ leb n).map encB)] := by
  refine AFun.of_walk hP Try.func40 rfl rfl rfl (by simp) rfl ?_
  have e1 : IntKind.i64.wrap ((bs.length : Int) + 10) = ((bs.length + 10 : Nat) : Int) := by rw [IntWalk.i64_in _ (by omega)]; simp
  simp only [Try.f40, e1, am, simprocAttr, tys]
  refine ⟨by omega, by omega, ?_⟩
  have hlen := leb_len 9 n (by omega)
  refine ALoopW.intro 27 0 (ι := { p : List UInt8 × Nat // p.1 ++ leb p.2 = leb n ∧ p.2 < 18446744073709551616 }) (fun p => [(1, .d (.lit (.int .u64 p.1.2))), (5, .own 0)]) (fun p => [.own 1 (bs.map encB ++ p.1.1.map encB)]) (fun p => p.1.2) ⟨([], n), by simp, hn⟩ [] [1] ?_ (fun ⟨⟨pre, m⟩, h1, h2⟩ => ?_)
  · refine ⟨rfl, rfl, Nat.zero_le _, fun i hi => by omega, ⟨.inr rfl, .inr rfl, trivial⟩, ⟨.inr ⟨by decide, ?_⟩, trivial⟩, rfl, by decide, rfl, rfl⟩
    simp only [List.map_nil, List.append_nil]; rfl
  · simp only at h1 h2
    have hpl : pre.length ≤ 10 := by have := congrArg List.length h1; simp at this; omega
    have hmp := leb_pos m
    simp only [or128, shr7, am, simprocAttr, tys]
    split
    · rename_i hm
      have hm' : 128 ≤ m := by have := of_decide_eq_true hm; omega
      refine ⟨by omega, ⟨(pre ++ [UInt8.ofNat (m % 128 + 128)], m / 128), ?_, ?_⟩, [], [2], ⟨rfl, rfl, Nat.zero_le _, fun i hi => by omega, ⟨.inr rfl, .inr rfl, trivial⟩, ⟨.inr ⟨by decide, ?_⟩, trivial⟩, rfl, by decide, rfl, rfl⟩, ?_⟩
      · rw [← h1]
        conv => rhs; rw [leb]
        rw [if_neg (by omega)]; simp
      · show m / 128 < _; omega
      · simp only [List.map_append, ← List.append_assoc]; rfl
      · show m / 128 < m; omega
    · rename_i hm
      have hm' : m < 128 := by
        have : ¬ ((128 : Int) ≤ m) := fun h => hm (decide_eq_true h)
        omega
      refine ⟨by omega, ?_⟩
      simp only [low8 m hm', FinR, evRes, evRVs, evRV, am, simprocAttr, tys]
      refine ⟨_, [], [2], rfl, ⟨rfl, rfl, Nat.zero_le _, fun i hi => by omega, trivial, ⟨.inr ⟨by decide, ?_⟩, trivial⟩, rfl, by decide, rfl, rfl⟩, rfl, rfl⟩
      have e2 : leb m = [UInt8.ofNat m] := by rw [leb, if_pos hm']
      rw [← h1, e2]
      simp only [List.map_append, ← List.append_assoc]; rfl
end Go.Proofs.Ytkadildabhkocaa
