/- Proved here: what functions of the program compute, and plain laws. No condition. -/
import Derived.Test.YtldckdbdgbpmpaaHeapP
set_option linter.unusedSimpArgs false
set_option linter.unusedVariables false
namespace Go.Proofs.Ytldckdbdgbpmpaa
open Go Go.AM

set_option maxRecDepth 8000 in
theorem runsPush0 (r : RunT) : AFun Try.prog 58 [.ptr 0 0, .ifc 47 (.d (.agg (encR r)))] [.box [nilS]] (.tup []) [.box [.own 1], .own 2 ([r].map encR)] := by
  refine AFun.of_walk hP Try.func58 rfl rfl rfl (by simp) rfl ?_
  simp only [Try.f58, encR, nilS, FinR, evRes, evRVs, evRV, am, simprocAttr, tys]
  exact ⟨by kernel_rfl, ⟨_, [], [0, 449], rfl, ⟨rfl, rfl, by simp, (fun i hi => .inr ((by decide : ∀ i, i < 1 → ([0, 449] : List Nat).getD i 0 = i) i hi)), trivial, ⟨.inr ⟨by decide, rfl⟩, .inr ⟨by decide, rfl⟩, trivial⟩, rfl, by decide, rfl, (by first | rfl | (simp [scRow, tkC_scs]; done) | (simp [scRow, scB]; done))⟩, rfl, rfl⟩⟩

end Go.Proofs.Ytldckdbdgbpmpaa
