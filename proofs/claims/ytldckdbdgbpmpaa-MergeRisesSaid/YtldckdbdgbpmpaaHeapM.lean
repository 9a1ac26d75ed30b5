/- Proved here: what functions of the program compute, and plain laws. No condition. -/
import Derived.Test.YtldckdbdgbpmpaaTrunc
set_option linter.unusedSimpArgs false
set_option linter.unusedVariables false
namespace Go.Proofs.Ytldckdbdgbpmpaa
open Go Go.AM

/-! ## runs: which list, what is left of it -/
abbrev RunT := Int × List PtT
def encR (r : RunT) : List DV := [.lit (.int .i64 r.1), .sl 2 (r.2.map encP)]
def hd (r : RunT) : Int := match r.2 with | [] => 0 | x :: _ => x.1
def ltR (x y : RunT) : Bool := if hd x = hd y then decide (y.1 < x.1) else decide (hd x < hd y)

theorem runsLen (h : List RunT) : AFun Try.prog 23 [.own 0] [.own 2 (h.map encR)] (int h.length) [.own 2 (h.map encR)] := by
  refine AFun.of_walk hP Try.func23 rfl rfl rfl (by simp) rfl ?_
  simp only [Try.f23, List.length_map, int, FinR, evRes, evRVs, evRV, am, simprocAttr, tys]
  exact ⟨_, [], [0], rfl, ⟨rfl, rfl, by simp, (fun i hi => .inr ((by decide : ∀ i, i < 1 → ([0] : List Nat).getD i 0 = i) i hi)), trivial, ⟨.inr ⟨by decide, rfl⟩, trivial⟩, rfl, by decide, rfl, (by first | rfl | (simp [scRow, tkC_scs]; done) | (simp [scRow, scB]; done))⟩, rfl, rfl⟩

set_option maxRecDepth 8000 in
theorem runsLess (h : List RunT) (i j : Nat) (x y : RunT) (hx : h[i]? = some x) (hy : h[j]? = some y) (px : x.2 ≠ []) (py : y.2 ≠ []) : AFun Try.prog 55 [.own 0, int i, int j] [.own 2 (h.map encR)] (bool (ltR x y)) [.own 2 (h.map encR)] := by
  refine AFun.of_walk hP Try.func55 rfl rfl rfl (by simp) rfl ?_
  have hi : (i : Int) < ((h.length : Nat) : Int) := by have := (List.getElem?_eq_some_iff.1 hx).1; omega
  have hj : (j : Int) < ((h.length : Nat) : Int) := by have := (List.getElem?_eq_some_iff.1 hy).1; omega
  obtain ⟨wx, _ | ⟨p, xs⟩⟩ := x
  · exact absurd rfl px
  obtain ⟨wy, _ | ⟨q, ys⟩⟩ := y
  · exact absurd rfl py
  have e1 : ((p :: xs).map encP)[0]? = some (encP p) := rfl
  have e2 : ((q :: ys).map encP)[0]? = some (encP q) := rfl
  have hlt : ltR (wx, p :: xs) (wy, q :: ys) = if p.1 = q.1 then decide (wy < wx) else decide (p.1 < q.1) := rfl
  rw [hlt]
  generalize p :: xs = X at *
  generalize q :: ys = Y at *
  by_cases hpq : p.1 = q.1
  · have hne : (p.1 != q.1) = false := by rw [hpq]; exact bne_self_eq_false' _
    have hne' : (p.1 == q.1) = true := by rw [hpq]; exact beq_self_eq_true _
    rw [if_pos hpq]
    simp only [Try.f55, int, bool, hi, hj, hx, hy, e1, e2, hne, hne', encR, encP, List.getElem?_map, Option.map_some, List.length_map, Int.natCast_nonneg, Int.toNat_natCast, Int.toNat_zero, FinR, evRes, evRVs, evRV, am, simprocAttr, tys]
    exact ⟨by kernel_rfl, by kernel_rfl, ⟨_, [], [0], rfl, ⟨rfl, rfl, by simp, (fun i hi => .inr ((by decide : ∀ i, i < 1 → ([0] : List Nat).getD i 0 = i) i hi)), trivial, ⟨.inr ⟨by decide, rfl⟩, trivial⟩, rfl, by decide, rfl, (by first | rfl | (simp [scRow, tkC_scs]; done) | (simp [scRow, scB]; done))⟩, rfl, rfl⟩⟩
  · have hne : (p.1 != q.1) = true := bne_iff_ne.2 hpq
    have hne' : (p.1 == q.1) = false := beq_eq_false_iff_ne.2 hpq
    rw [if_neg hpq]
    simp only [Try.f55, int, bool, hi, hj, hx, hy, e1, e2, hne, hne', encR, encP, List.getElem?_map, Option.map_some, List.length_map, Int.natCast_nonneg, Int.toNat_natCast, Int.toNat_zero, FinR, evRes, evRVs, evRV, am, simprocAttr, tys]
    exact ⟨by kernel_rfl, ⟨_, [], [0], rfl, ⟨rfl, rfl, by simp, (fun i hi => .inr ((by decide : ∀ i, i < 1 → ([0] : List Nat).getD i 0 = i) i hi)), trivial, ⟨.inr ⟨by decide, rfl⟩, trivial⟩, rfl, by decide, rfl, (by first | rfl | (simp [scRow, tkC_scs]; done) | (simp [scRow, scB]; done))⟩, rfl, rfl⟩⟩
end Go.Proofs.Ytldckdbdgbpmpaa
