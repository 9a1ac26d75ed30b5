/- Proved here: what functions of the program compute, and plain laws. No condition. -/
import Derived.Test.YtldckdbdgbpmpaaHeapS
set_option linter.unusedSimpArgs false
set_option linter.unusedVariables false
namespace Go.Proofs.Ytldckdbdgbpmpaa
open Go Go.AM

set_option maxRecDepth 8000 in
theorem runsPush (h : List RunT) (r : RunT) (hl : h.length ≤ 1000000) : AFun Try.prog 58 [.ptr 0 0, .ifc 47 (.d (.agg (encR r)))] [.box [.own 1], .own 2 (h.map encR)] (.tup []) [.box [.own 2], .dead, .own 2 ((h ++ [r]).map encR)] := by
  refine AFun.of_walk hP Try.func58 rfl rfl rfl (by simp) rfl ?_
  have eapp : h.map encR ++ [[DV.lit (.int .i64 r.1), DV.sl 2 (r.2.map encP)]] = (h ++ [r]).map encR := by rw [List.map_append]; rfl
  simp only [Try.f58, encR, List.length_map, am, simprocAttr, tys]
  simp only [eapp, FinR, evRes, evRVs, evRV, am, simprocAttr, tys]
  exact ⟨by omega, by kernel_rfl, ⟨_, [], [0, 1, 450], rfl, ⟨rfl, rfl, by simp, (fun i hi => .inr ((by decide : ∀ i, i < 2 → ([0, 1, 450] : List Nat).getD i 0 = i) i hi)), trivial, ⟨.inr ⟨by decide, rfl⟩, .inr ⟨by decide, rfl⟩, .inr ⟨by decide, rfl⟩, trivial⟩, rfl, by decide, rfl, (by first | rfl | (simp [scRow, tkC_scs]; done) | (simp [scRow, scB]; done))⟩, rfl, rfl⟩⟩
end Go.Proofs.Ytldckdbdgbpmpaa
