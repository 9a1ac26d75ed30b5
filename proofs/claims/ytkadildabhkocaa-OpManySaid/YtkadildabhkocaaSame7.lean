/- Proved here: what functions of the program compute, and plain laws. No condition. -/
import Derived.Test.YtkadildabhkocaaGet
set_option linter.unusedSimpArgs false
set_option linter.unusedVariables false
namespace Go.Proofs.Ytkadildabhkocaa
open Go Go.AM

def eqA (x y : Ask) : Bool := x.1 == y.1 && (x.2.1 == y.2.1 && x.2.2.1 == y.2.2.1)
theorem eqA_iff (x y : Ask) : eqA x y = true ↔ x = y := by
  obtain ⟨a, b, c, ⟨⟩⟩ := x
  obtain ⟨d, e, f, ⟨⟩⟩ := y
  simp [eqA]
theorem eqA_cells (x y : Ask) : eqLits [.int .u8, .string, .string] (encA x) (encA y) = some (eqA x y) := by
  have e : ((x.1.toNat : Int) == (y.1.toNat : Int)) = (x.1 == y.1) := by
    rw [Bool.eq_iff_iff, beq_iff_eq, beq_iff_eq]
    constructor
    · intro h; apply UInt8.toNat_inj.1; omega
    · intro h; rw [h]
  simp only [encA, eqLits, eqK, bl_toList, e, if_true, Bool.and_true, eqA]

theorem same7 (x y : List Ask) (hx : x.length ≤ 9223372036854775807) (hy : y.length ≤ 9223372036854775807) : AFun Try.prog 32 [.d (.sl 3 (x.map encA)), .d (.sl 3 (y.map encA))] [] (bool (decide (x = y))) [] := by
  refine AFun.of_walk hP Try.func32 rfl rfl rfl (by simp) rfl ?_
  rcases hlen : (((x.length : Nat) : Int) != (y.length : Int)) with _ | _
  · have hle : x.length = y.length := by simp at hlen; omega
    simp only [Try.f32, hlen, am, simprocAttr, tys]
    refine ALoopW.intro 26 0 (ι := { i : Nat // i ≤ x.length ∧ x.take i = y.take i }) (fun i => [(0, .d (.sl 3 (x.map encA))), (1, .d (.sl 3 (y.map encA))), (5, int i.1)]) (fun _ => []) (fun i => x.length - i.1) ⟨0, by omega, by simp⟩ [] [] ?_ (fun ⟨i, hi, heq⟩ => ?_)
    · exact Ent.plain rfl rfl rfl (⟨.inr rfl, .inr rfl, .inr rfl, trivial⟩) rfl
    rcases Nat.lt_or_ge i x.length with hlt | hge
    · have hlt' : i < y.length := by omega
      have hb : x[i]? = some x[i] := List.getElem?_eq_getElem hlt
      have hb' : y[i]? = some y[i] := List.getElem?_eq_getElem hlt'
      have hlt2 : ((i : Int) < x.length) := by omega
      have hlt3 : ((i : Int) < y.length) := by omega
      have e1 : IntKind.i64.wrap ((i : Int) + 1) = ((i + 1 : Nat) : Int) := by rw [IntWalk.i64_in _ (by omega)]; simp
      have hc := eqA_cells x[i] y[i]
      rcases hq : eqA x[i] y[i] with _ | _
      · rw [hq] at hc
        have hne : ¬ x = y := by
          intro h
          have : x[i] = y[i] := by simp only [h]
          rw [(eqA_iff _ _).2 this] at hq; cases hq
        have hd : decide (x = y) = false := decide_eq_false hne
        simp only [encA] at hc
        simp only [int, hb, hb', hlt2, hlt3, encA, hc, hd, bool, Int.natCast_nonneg, FinR, evRes, evRVs, evRV, am, simprocAttr, tys]
        exact ⟨by kernel_rfl, ⟨_, [], [], rfl, Ent.plain rfl rfl rfl trivial rfl, rfl, rfl⟩⟩
      · rw [hq] at hc
        have he := (eqA_iff _ _).1 hq
        simp only [encA] at hc
        simp only [int, hb, hb', hlt2, hlt3, encA, hc, e1, Int.natCast_nonneg, am, simprocAttr, tys]
        exact ⟨by kernel_rfl, ⟨i + 1, by omega, by rw [List.take_succ_eq_append_getElem hlt, List.take_succ_eq_append_getElem hlt', heq, he]⟩, [], [], Ent.plain rfl rfl rfl (⟨.inr rfl, .inr rfl, .inr rfl, trivial⟩) rfl, by show x.length - (i + 1) < x.length - i; omega⟩
    · have hlt2 : ¬ ((i : Int) < x.length) := by omega
      have hxy : x = y := by rwa [List.take_of_length_le hge, List.take_of_length_le (by omega)] at heq
      have hd : decide (x = y) = true := decide_eq_true hxy
      simp only [int, hlt2, hd, bool, FinR, evRes, evRVs, evRV, am, simprocAttr, tys]
      exact ⟨_, [], [], rfl, Ent.plain rfl rfl rfl trivial rfl, rfl, rfl⟩
  · have hne : ¬ x = y := by intro h; rw [h] at hlen; simp at hlen
    have hd : decide (x = y) = false := decide_eq_false hne
    simp only [Try.f32, hlen, hd, bool, FinR, evRes, evRVs, evRV, am, simprocAttr, tys]
    exact ⟨_, [], [], rfl, Ent.plain rfl rfl rfl trivial rfl, rfl, rfl⟩
end Go.Proofs.Ytkadildabhkocaa
