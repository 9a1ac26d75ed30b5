/- Proved here: what functions of the program compute, and plain laws. No condition. -/
import Derived.Test.YtkadildabhkocaaRNum
set_option linter.unusedSimpArgs false
set_option linter.unusedVariables false
namespace Go.Proofs.Ytkadildabhkocaa
open Go Go.AM

theorem tkEnd (t : Tk) : AFun Try.prog 58 [.ptr 0 0] [.box (tkC t)] (errno (endT t)) [.box (tkC t)] := by
  refine AFun.of_walk hP Try.func58 rfl rfl rfl (by simp) rfl ?_
  rcases t with _ | bs
  · simp only [Try.f58, tkC, byts, bool, FinR, evRes, evRVs, evRV, am, simprocAttr, tys]
    exact ⟨_, [], [0], rfl, ⟨rfl, rfl, by simp, (fun i hi => .inr ((by decide : ∀ i, i < 1 → ([0] : List Nat).getD i 0 = i) i hi)), trivial, ⟨.inr ⟨by decide, rfl⟩, trivial⟩, rfl, by decide, rfl, (by first | rfl | simp [scRow, tkC_scs])⟩, rfl, rfl⟩
  · rcases bs with _ | ⟨b, bs⟩
    · simp only [Try.f58, tkC, byts, bool, FinR, evRes, evRVs, evRV, am, simprocAttr, tys]
      exact ⟨_, [], [0], rfl, ⟨rfl, rfl, by simp, (fun i hi => .inr ((by decide : ∀ i, i < 1 → ([0] : List Nat).getD i 0 = i) i hi)), trivial, ⟨.inr ⟨by decide, rfl⟩, trivial⟩, rfl, by decide, rfl, (by first | rfl | simp [scRow, tkC_scs])⟩, rfl, rfl⟩
    · have h : ((0 : Int) < ((bs.length + 1 : Nat) : Int)) := by omega
      simp only [Try.f58, tkC, byts, bool, h, FinR, evRes, evRVs, evRV, am, simprocAttr, tys]
      exact ⟨_, [], [0], rfl, ⟨rfl, rfl, by simp, (fun i hi => .inr ((by decide : ∀ i, i < 1 → ([0] : List Nat).getD i 0 = i) i hi)), trivial, ⟨.inr ⟨by decide, rfl⟩, trivial⟩, rfl, by decide, rfl, (by first | rfl | simp [scRow, tkC_scs])⟩, rfl, rfl⟩

end Go.Proofs.Ytkadildabhkocaa
