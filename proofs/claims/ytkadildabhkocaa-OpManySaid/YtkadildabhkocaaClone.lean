/- Proved here: what functions of the program compute, and plain laws. No condition. -/
import Derived.Test.YtkadildabhkocaaBase
set_option linter.unusedSimpArgs false
set_option linter.unusedVariables false
namespace Go.Proofs.Ytkadildabhkocaa
open Go Go.AM

theorem cloneB (b : List UInt8) (hl : b.length ≤ 100000000000000) : AFun Try.prog 33 [byts b] [] (byts b) [] := by
  rcases b with _ | ⟨x, b⟩
  · refine AFun.nil0 1 fun a cap => ?_
    rcases a with _ | a
    · refine AFun.weaken (r := nilS) ?_ trivial (fun rows β w X v h => nil_sl 1 rows β w X v h)
      refine AFun.of_walk hP Try.func33 rfl rfl rfl (by simp) rfl ?_
      simp only [Try.f33, nilS, FinR, evRes, evRVs, evRV, am, simprocAttr, tys]
      exact ⟨_, [], [], rfl, Ent.plain rfl rfl rfl trivial rfl, rfl, rfl⟩
    · refine AFun.of_walk hP Try.func33 rfl rfl rfl (by simp) rfl ?_
      simp only [Try.f33, FinR, evRes, evRVs, evRV, am, simprocAttr, tys]
      exact ⟨_, [1], [], rfl, ⟨rfl, rfl, by simp, (fun i hi => absurd hi (Nat.not_lt_zero _)), trivial, trivial, rfl, by decide, rfl, (by first | rfl | simp [scRow, tkC_scs])⟩, rfl, rfl⟩
  · have hlen : 0 < (x :: b).length := by simp
    refine AFun.of_walk hP Try.func33 rfl rfl rfl (by simp) rfl ?_
    generalize x :: b = y at *
    simp only [Try.f33, byts, hlen, FinR, evRes, evRVs, evRV, am, simprocAttr, tys]
    exact ⟨by omega, ⟨_, [1], [], rfl, ⟨rfl, rfl, by simp, (fun i hi => absurd hi (Nat.not_lt_zero _)), trivial, trivial, rfl, by decide, rfl, (by first | rfl | simp [scRow, tkC_scs])⟩, rfl, rfl⟩⟩
end Go.Proofs.Ytkadildabhkocaa
