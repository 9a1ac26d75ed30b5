/- Proved here: what functions of the program compute, and plain laws. No condition. -/
import Derived.Test.YtkadildabhkocaaLaws14
import Derived.Test.YtkadildabhkocaaTake5
import Derived.Test.YtkadildabhkocaaTake7
set_option linter.unusedSimpArgs false
set_option linter.unusedVariables false
namespace Go.Proofs.Ytkadildabhkocaa
open Go Go.AM

theorem lebI_free {a b : Int} {r s : List UInt8} (ha : I64 a) (hb : I64 b) (h : lebI a ++ r = lebI b ++ s) : a = b ∧ r = s := by
  obtain ⟨h1, h2⟩ := leb_prefix_free (fold_lt a ha) (fold_lt b hb) h
  refine ⟨?_, h2⟩
  have := congrArg unfold' h1
  rwa [unfold_fold, unfold_fold] at this
theorem sameO_iff (o p : OpT) : sameO o p = true ↔ o = p := by
  obtain ⟨a, b, ⟨c, d, ⟨⟩⟩, e, ⟨⟩⟩ := o
  obtain ⟨a', b', ⟨c', d', ⟨⟩⟩, e', ⟨⟩⟩ := p
  simp [sameO, ptB]
  intro _
  constructor
  · rintro ⟨⟨h2, h3⟩, h4, h5⟩; exact ⟨h4, ⟨h2, h3⟩, h5⟩
  · rintro ⟨h4, ⟨h2, h3⟩, h5⟩; exact ⟨⟨h2, h3⟩, h4, h5⟩
theorem noL_nil {o : OpT} (h : noL o = true) : o.2.1 = [] := List.length_eq_zero_iff.1 (of_decide_eq_true h)
theorem noA_nil {o : OpT} (h : noA o = true) : o.2.2.2.1 = [] := List.length_eq_zero_iff.1 (of_decide_eq_true h)
theorem putO_inj {o p : OpT} (ho : FitI o) (hp : FitI p) (h1 : rightO o = true) (h2 : rightO p = true) (h : putO o = putO p) : o = p := by
  have hk : o.1 = p.1 := (List.cons.inj h).1
  have ht := (List.cons.inj h).2
  rw [← sameO_iff]
  unfold rightO at h1 h2
  rw [← hk] at h2 ht
  have kk : (o.1 == p.1) = true := by rw [hk]; simp
  by_cases k1 : o.1 = 1
  · rw [if_pos k1] at h1 h2
    rw [if_pos k1, if_pos k1] at ht
    simp only [Bool.and_eq_true] at h1 h2
    have e1 := takeLb_put o.2.1 (lebI o.2.2.1.1 ++ lebI o.2.2.1.2.1) h1.1
    have e2 := takeLb_put p.2.1 (lebI p.2.2.1.1 ++ lebI p.2.2.1.2.1) h2.1
    rw [← List.append_assoc, ht, List.append_assoc, e2] at e1
    simp only [Option.some.injEq, Prod.mk.injEq] at e1
    obtain ⟨g1, g2⟩ := e1
    obtain ⟨g3, g4⟩ := lebI_free hp.p1 ho.p1 g2
    have g5 := (lebI_free (r := []) (s := []) hp.p2 ho.p2 (by rw [List.append_nil, List.append_nil]; exact g4)).1
    unfold sameO ptB
    rw [kk, noA_nil h1.2, noA_nil h2.2, g1, g3, g5]; simp
  · rw [if_neg k1] at h1 h2
    rw [if_neg k1, if_neg k1] at ht
    by_cases k4 : o.1 = 4
    · have k3 : ¬ o.1 = 3 := by rw [k4]; decide
      rw [if_pos k4] at h1 h2
      rw [if_neg k3, if_neg k3, if_pos k4, if_pos k4] at ht
      simp only [Bool.and_eq_true, z1, z2, beq_iff_eq] at h1 h2
      have e1 := takeA_put o.2.2.2.1 [] h1.1
      have e2 := takeA_put p.2.2.2.1 [] h2.1
      rw [ht, e2] at e1
      simp only [Option.some.injEq, Prod.mk.injEq] at e1
      unfold sameO ptB
      rw [kk, noL_nil h1.2.1, noL_nil h2.2.1, e1.1, h1.2.2.1, h1.2.2.2, h2.2.2.1, h2.2.2.2]; simp
    · rw [if_neg k4] at h1 h2
      by_cases k3 : o.1 = 3
      · rw [if_pos k3] at h1 h2
        rw [if_pos k3, if_pos k3] at ht
        simp only [Bool.and_eq_true, z2, beq_iff_eq] at h1 h2
        have g5 := (lebI_free (r := []) (s := []) ho.p1 hp.p1 (by rw [List.append_nil, List.append_nil]; exact ht)).1
        unfold sameO ptB
        rw [kk, noL_nil h1.1, noL_nil h2.1, noA_nil h1.2.1, noA_nil h2.2.1, g5, h1.2.2, h2.2.2]; simp
      · rw [if_neg k3] at h1 h2
        by_cases k2 : o.1 = 2
        · rw [if_pos k2] at h1 h2
          simp only [Bool.and_eq_true, z1, z2, beq_iff_eq] at h1 h2
          unfold sameO ptB
          rw [kk, noL_nil h1.1, noL_nil h2.1, noA_nil h1.2.1, noA_nil h2.2.1, h1.2.2.1, h2.2.2.1, h1.2.2.2, h2.2.2.2]; simp
        · rw [if_neg k2] at h1; cases h1
theorem kind_key {o p : OpT} (ho : FitI o) (hp : FitI p) (h1 : rightO o = true) (h2 : rightO p = true) : ((putO o == putO p) == sameO o p) = true := by
  rw [beq_iff_eq, Bool.eq_iff_iff, beq_iff_eq, sameO_iff]
  exact ⟨putO_inj ho hp h1 h2, fun h => by rw [h]⟩
end Go.Proofs.Ytkadildabhkocaa
