/- Proved here: what functions of the program compute, and plain laws. No condition. -/
import Derived.Test.YtldckdbdgbpmpaaHeapM
set_option linter.unusedSimpArgs false
set_option linter.unusedVariables false
namespace Go.Proofs.Ytldckdbdgbpmpaa
open Go Go.AM

set_option maxRecDepth 8000 in
theorem runsSwap (h : List RunT) (i j : Nat) (x y : RunT) (hx : h[i]? = some x) (hy : h[j]? = some y) : AFun Try.prog 56 [.own 0, int i, int j] [.own 2 (h.map encR)] (.tup []) [.own 2 (((h.set i y).set j x).map encR)] := by
  refine AFun.of_walk hP Try.func56 rfl rfl rfl (by simp) rfl ?_
  have hi : (i : Int) < ((h.length : Nat) : Int) := by have := (List.getElem?_eq_some_iff.1 hx).1; omega
  have hj : (j : Int) < ((h.length : Nat) : Int) := by have := (List.getElem?_eq_some_iff.1 hy).1; omega
  have m1 : ∀ (l : List RunT) (k : Nat) (z : RunT), (l.map encR).set k (encR z) = (l.set k z).map encR := fun l k z => List.map_set.symm
  have hsl : (h.set i y).length = h.length := List.length_set
  have hg : ∃ z, (h.set i y)[j]? = some z := ⟨_, List.getElem?_eq_getElem (by rw [hsl]; omega)⟩
  obtain ⟨z, hz⟩ := hg
  simp only [encR] at m1
  simp only [Try.f56, int, hi, hj, hx, hy, hz, hsl, m1, encR, Int.natCast_nonneg, Int.toNat_natCast, am, simprocAttr, tys]
  refine ⟨by kernel_rfl, ?_⟩
  simp only [m1, FinR, evRes, evRVs, evRV, am, simprocAttr, tys]
  exact ⟨_, [], [0], rfl, ⟨rfl, rfl, by simp, (fun i hi => .inr ((by decide : ∀ i, i < 1 → ([0] : List Nat).getD i 0 = i) i hi)), trivial, ⟨.inr ⟨by decide, rfl⟩, trivial⟩, rfl, by decide, rfl, (by first | rfl | (simp [scRow, tkC_scs]; done) | (simp [scRow, scB]; done))⟩, rfl, rfl⟩
end Go.Proofs.Ytldckdbdgbpmpaa
