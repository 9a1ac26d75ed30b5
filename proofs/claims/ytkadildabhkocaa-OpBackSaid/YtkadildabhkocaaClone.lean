/- Proved here: what functions of the program compute, and plain laws. No condition. -/
import Derived.Test.YtkadildabhkocaaBase
set_option linter.unusedSimpArgs false
set_option linter.unusedVariables false
namespace Go.Proofs.Ytkadildabhkocaa
open Go Go.AM

theorem cloneB (b : List UInt8) (hl : b.length ≤ 100000000000000) : AFun Try.prog 33 [byts b] [] (byts b) [] := by
  rcases b with _ | ⟨x, b⟩
  · refine AFun.nil0 1 fun a cap => ?_
    rcases a with _ | a
    · refine AFun.weaken (r := nilS) ?_ trivial (fun rows β w X v h => nil_sl 1 rows β w X v h)
      refine AFun.of_walk hP Try.func33 rfl rfl rfl (by simp) rfl ?_
      simp only [Try.f33, nilS, FinR, evRes, evRVs, evRV, am1, am2, am3, am4, am5, am6, am7, am8, am9, am10, am11, am12, am13, am14, am15, am16, am17, am18, if_true, if_false, Int.reduceNe, Int.reduceEq, ne_eq, not_false_eq_true, Int.reduceBEq, Int.reduceBNe, Int.reduceAdd, Int.reduceSub, Int.reduceMul, Int.reduceNeg, Int.reduceLE, Int.reduceLT, Nat.reduceEqDiff, Nat.reduceLT, Nat.reduceLeDiff, Nat.reduceAdd, Nat.reduceMul, Nat.reduceSub, reduceCtorEq, ↓reduceIte, Int.reduceToNat, tys1, tys2, tys3, tys4, tys5, tys6, tys7, tys8]
      exact ⟨_, [], [], rfl, Ent.plain rfl rfl rfl trivial rfl, rfl, rfl⟩
    · refine AFun.of_walk hP Try.func33 rfl rfl rfl (by simp) rfl ?_
      simp only [Try.f33, FinR, evRes, evRVs, evRV, am1, am2, am3, am4, am5, am6, am7, am8, am9, am10, am11, am12, am13, am14, am15, am16, am17, am18, if_true, if_false, Int.reduceNe, Int.reduceEq, ne_eq, not_false_eq_true, Int.reduceBEq, Int.reduceBNe, Int.reduceAdd, Int.reduceSub, Int.reduceMul, Int.reduceNeg, Int.reduceLE, Int.reduceLT, Nat.reduceEqDiff, Nat.reduceLT, Nat.reduceLeDiff, Nat.reduceAdd, Nat.reduceMul, Nat.reduceSub, reduceCtorEq, ↓reduceIte, Int.reduceToNat, tys1, tys2, tys3, tys4, tys5, tys6, tys7, tys8]
      exact ⟨_, [1], [], rfl, ⟨rfl, rfl, by simp, (fun i hi => absurd hi (Nat.not_lt_zero _)), trivial, trivial, rfl, by decide, rfl, (by first | rfl | simp [scRow, tkC_scs])⟩, rfl, rfl⟩
  · have hlen : 0 < (x :: b).length := by simp
    refine AFun.of_walk hP Try.func33 rfl rfl rfl (by simp) rfl ?_
    generalize x :: b = y at *
    simp only [Try.f33, byts, hlen, FinR, evRes, evRVs, evRV, am1, am2, am3, am4, am5, am6, am7, am8, am9, am10, am11, am12, am13, am14, am15, am16, am17, am18, if_true, if_false, Int.reduceNe, Int.reduceEq, ne_eq, not_false_eq_true, Int.reduceBEq, Int.reduceBNe, Int.reduceAdd, Int.reduceSub, Int.reduceMul, Int.reduceNeg, Int.reduceLE, Int.reduceLT, Nat.reduceEqDiff, Nat.reduceLT, Nat.reduceLeDiff, Nat.reduceAdd, Nat.reduceMul, Nat.reduceSub, reduceCtorEq, ↓reduceIte, Int.reduceToNat, tys1, tys2, tys3, tys4, tys5, tys6, tys7, tys8]
    exact ⟨by omega, ⟨_, [1], [], rfl, ⟨rfl, rfl, by simp, (fun i hi => absurd hi (Nat.not_lt_zero _)), trivial, trivial, rfl, by decide, rfl, (by first | rfl | simp [scRow, tkC_scs])⟩, rfl, rfl⟩⟩
end Go.Proofs.Ytkadildabhkocaa
