/- Proved here: what functions of the program compute, and plain laws. No condition. -/
import Derived.Test.YtkadildabhkocaaRNum
set_option linter.unusedSimpArgs false
set_option linter.unusedVariables false
namespace Go.Proofs.Ytkadildabhkocaa
open Go Go.AM

theorem tkEnd (t : Tk) : AFun Try.prog 58 [.ptr 0 0] [.box (tkC t)] (errno (endT t)) [.box (tkC t)] := by
  refine AFun.of_walk hP Try.func58 rfl rfl rfl (by simp) rfl ?_
  rcases t with _ | bs
  · simp only [Try.f58, tkC, byts, bool, FinR, evRes, evRVs, evRV, am1, am2, am3, am4, am5, am6, am7, am8, am9, am10, am11, am12, am13, am14, am15, am16, am17, am18, if_true, if_false, Int.reduceNe, Int.reduceEq, ne_eq, not_false_eq_true, Int.reduceBEq, Int.reduceBNe, Int.reduceAdd, Int.reduceSub, Int.reduceMul, Int.reduceNeg, Int.reduceLE, Int.reduceLT, Nat.reduceEqDiff, Nat.reduceLT, Nat.reduceLeDiff, Nat.reduceAdd, Nat.reduceMul, Nat.reduceSub, reduceCtorEq, ↓reduceIte, Int.reduceToNat, tys1, tys2, tys3, tys4, tys5, tys6, tys7, tys8]
    exact ⟨_, [], [0], rfl, ⟨rfl, rfl, by simp, (fun i hi => .inr ((by decide : ∀ i, i < 1 → ([0] : List Nat).getD i 0 = i) i hi)), trivial, ⟨.inr ⟨by decide, rfl⟩, trivial⟩, rfl, by decide, rfl, (by first | rfl | simp [scRow, tkC_scs])⟩, rfl, rfl⟩
  · rcases bs with _ | ⟨b, bs⟩
    · simp only [Try.f58, tkC, byts, bool, FinR, evRes, evRVs, evRV, am1, am2, am3, am4, am5, am6, am7, am8, am9, am10, am11, am12, am13, am14, am15, am16, am17, am18, if_true, if_false, Int.reduceNe, Int.reduceEq, ne_eq, not_false_eq_true, Int.reduceBEq, Int.reduceBNe, Int.reduceAdd, Int.reduceSub, Int.reduceMul, Int.reduceNeg, Int.reduceLE, Int.reduceLT, Nat.reduceEqDiff, Nat.reduceLT, Nat.reduceLeDiff, Nat.reduceAdd, Nat.reduceMul, Nat.reduceSub, reduceCtorEq, ↓reduceIte, Int.reduceToNat, tys1, tys2, tys3, tys4, tys5, tys6, tys7, tys8]
      exact ⟨_, [], [0], rfl, ⟨rfl, rfl, by simp, (fun i hi => .inr ((by decide : ∀ i, i < 1 → ([0] : List Nat).getD i 0 = i) i hi)), trivial, ⟨.inr ⟨by decide, rfl⟩, trivial⟩, rfl, by decide, rfl, (by first | rfl | simp [scRow, tkC_scs])⟩, rfl, rfl⟩
    · have h : ((0 : Int) < ((bs.length + 1 : Nat) : Int)) := by omega
      simp only [Try.f58, tkC, byts, bool, h, FinR, evRes, evRVs, evRV, am1, am2, am3, am4, am5, am6, am7, am8, am9, am10, am11, am12, am13, am14, am15, am16, am17, am18, if_true, if_false, Int.reduceNe, Int.reduceEq, ne_eq, not_false_eq_true, Int.reduceBEq, Int.reduceBNe, Int.reduceAdd, Int.reduceSub, Int.reduceMul, Int.reduceNeg, Int.reduceLE, Int.reduceLT, Nat.reduceEqDiff, Nat.reduceLT, Nat.reduceLeDiff, Nat.reduceAdd, Nat.reduceMul, Nat.reduceSub, reduceCtorEq, ↓reduceIte, Int.reduceToNat, tys1, tys2, tys3, tys4, tys5, tys6, tys7, tys8]
      exact ⟨_, [], [0], rfl, ⟨rfl, rfl, by simp, (fun i hi => .inr ((by decide : ∀ i, i < 1 → ([0] : List Nat).getD i 0 = i) i hi)), trivial, ⟨.inr ⟨by decide, rfl⟩, trivial⟩, rfl, by decide, rfl, (by first | rfl | simp [scRow, tkC_scs])⟩, rfl, rfl⟩

end Go.Proofs.Ytkadildabhkocaa
