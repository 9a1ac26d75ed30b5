/- Proved here: what functions of the program compute, and plain laws. No condition. -/
import Derived.Test.YtkadildabhkocaaPut
set_option linter.unusedSimpArgs false
set_option linter.unusedVariables false
namespace Go.Proofs.Ytkadildabhkocaa
open Go Go.AM

theorem add128 (n : Nat) : IntKind.u8.wrap (IntKind.u64.wrap ((n : Int).tmod 128 + 128)) = ((UInt8.ofNat (n % 128 + 128)).toNat : Int) := by
  have e : (n : Int).tmod 128 = ((n % 128 : Nat) : Int) := rfl
  rw [e, IntWalk.u64_in _ (by omega), IntKind.wrap_u8]; simp

theorem div128 (n : Nat) (hn : n < 18446744073709551616) : IntKind.u64.wrap ((n : Int).tdiv 128) = ((n / 128 : Nat) : Int) := by
  have e : (n : Int).tdiv 128 = ((n / 128 : Nat) : Int) := rfl
  rw [e, IntWalk.u64_in _ (by omega)]

theorem refPut (bs : List UInt8) (n : Nat) (hl : bs.length ≤ 100000000000000) (hn : n < 18446744073709551616) :
    AFun Try.prog 43 [.d (.sl 1 (bs.map encB)), .d (.lit (.int .u64 n))] [] (.own 0) [.own 1 ((bs ++ leb n).map encB)] := by
  refine AFun.of_walk hP Try.func43 rfl rfl rfl (by simp) rfl ?_
  simp only [Try.f43, am, simprocAttr, tys]
  refine ⟨by omega, ?_⟩
  have hlen := leb_len 9 n (by omega)
  refine ALoopW.intro 25 0 (ι := { p : List UInt8 × Nat // p.1 ++ leb p.2 = leb n ∧ p.2 < 18446744073709551616 }) (fun p => [(1, .d (.lit (.int .u64 p.1.2))), (5, .own 0)]) (fun p => [.own 1 (bs.map encB ++ p.1.1.map encB)]) (fun p => p.1.2) ⟨([], n), by simp, hn⟩ [] [1] ?_ (fun ⟨⟨pre, m⟩, h1, h2⟩ => ?_)
  · refine ⟨rfl, rfl, Nat.zero_le _, fun i hi => by omega, ⟨.inr rfl, .inr rfl, trivial⟩, ⟨.inr ⟨by decide, ?_⟩, trivial⟩, rfl, by decide, rfl, rfl⟩
    simp only [List.map_nil, List.append_nil]; rfl
  · simp only at h1 h2
    have hpl : pre.length ≤ 10 := by have := congrArg List.length h1; simp at this; omega
    have hmp := leb_pos m
    simp only [add128, div128 m h2, am, simprocAttr, tys]
    split
    · rename_i hm
      have hm' : 128 ≤ m := by have := of_decide_eq_true hm; omega
      refine ⟨by omega, ⟨(pre ++ [UInt8.ofNat (m % 128 + 128)], m / 128), ?_, ?_⟩, [], [2], ⟨rfl, rfl, Nat.zero_le _, fun i hi => by omega, ⟨.inr rfl, .inr rfl, trivial⟩, ⟨.inr ⟨by decide, ?_⟩, trivial⟩, rfl, by decide, rfl, rfl⟩, ?_⟩
      · rw [← h1]
        conv => rhs; rw [leb]
        rw [if_neg (by omega)]; simp
      · show m / 128 < _; omega
      · simp only [List.map_append, ← List.append_assoc]; rfl
      · show m / 128 < m; omega
    · rename_i hm
      have hm' : m < 128 := by
        have : ¬ ((127 : Int) < m) := fun h => hm (decide_eq_true h)
        omega
      refine ⟨by omega, ?_⟩
      simp only [low8 m hm', FinR, evRes, evRVs, evRV, am, simprocAttr, tys]
      refine ⟨_, [], [2], rfl, ⟨rfl, rfl, Nat.zero_le _, fun i hi => by omega, trivial, ⟨.inr ⟨by decide, ?_⟩, trivial⟩, rfl, by decide, rfl, rfl⟩, rfl, rfl⟩
      have e2 : leb m = [UInt8.ofNat m] := by rw [leb, if_pos hm']
      rw [← h1, e2]
      simp only [List.map_append, ← List.append_assoc]; rfl
end Go.Proofs.Ytkadildabhkocaa
