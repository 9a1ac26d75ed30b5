/- Proved here: what functions of the program compute, and plain laws. No condition. -/
import Derived.Test.YtldckdbdgbpmpaaHeapQ
set_option linter.unusedSimpArgs false
set_option linter.unusedVariables false
namespace Go.Proofs.Ytldckdbdgbpmpaa
open Go Go.AM

set_option maxRecDepth 8000 in
theorem runsPopW (h : List RunT) (r : RunT) (hl : h.length ≤ 1000000) : AFun Try.prog 57 [.ptr 0 0] [.box [.own 1], .own 2 ((h ++ [r]).map encR)] (.ifc 47 (.d (.agg (encR r)))) (oldW h.length 2 ((h ++ [r]).map encR)) := by
  refine AFun.of_walk hP Try.func57 rfl rfl rfl (by simp) rfl ?_
  have hlen : (h ++ [r]).length = h.length + 1 := by simp
  have hg : (h ++ [r])[h.length]? = some r := by simp
  have w1 : IntKind.i64.wrap (((h.length + 1 : Nat) : Int) - 1) = ((h.length : Nat) : Int) := by rw [IntWalk.i64_in _ (by omega)]; omega
  have i1 : ((h.length : Nat) : Int) < ((h.length + 1 : Nat) : Int) := by omega
  have i2 : ((h.length : Nat) : Int) ≤ ((h.length + 1 : Nat) : Int) := by omega
  unfold oldW
  generalize h ++ [r] = H at *
  simp only [Try.f57, hlen, hg, w1, i1, i2, encR, List.length_map, List.getElem?_map, Option.map_some, Int.natCast_nonneg, Int.toNat_natCast, Nat.sub_zero, FinR, evRes, evRVs, evRV, am, simprocAttr, tys]
  exact ⟨_, [], [0, 1], rfl, ⟨rfl, rfl, by simp, (fun i hi => .inr ((by decide : ∀ i, i < 2 → ([0, 1] : List Nat).getD i 0 = i) i hi)), trivial, ⟨.inr ⟨by decide, rfl⟩, .inr ⟨by decide, rfl⟩, trivial⟩, rfl, by decide, rfl, (by first | rfl | (simp [scRow, tkC_scs]; done) | (simp [scRow, scB]; done))⟩, rfl, rfl⟩
theorem runsPop (h : List RunT) (r : RunT) (hl : h.length ≤ 1000000) : AFun Try.prog 57 [.ptr 0 0] [.box [.own 1], .own 2 ((h ++ [r]).map encR)] (.ifc 47 (.d (.agg (encR r)))) [.box [.own 2], .dead, .own 2 (h.map encR)] := by
  have c := AFun.trunc (by simp) (by simp) (runsPopW h r hl) (fun rows rows' β β' w X v hv => by unfold repP at hv ⊢; obtain ⟨u, h1, h2⟩ := hv; exact ⟨u, h1, by unfold repP at h2 ⊢; exact h2⟩) trivial
  unfold newW at c
  rw [← List.map_take, List.take_left' rfl] at c
  exact c
end Go.Proofs.Ytldckdbdgbpmpaa
