/- Proved here: what functions of the program compute, and plain laws. No condition. -/
import Derived.Test.YtkadildabhkocaaOpTake
set_option linter.unusedSimpArgs false
set_option linter.unusedVariables false
namespace Go.Proofs.Ytkadildabhkocaa
open Go Go.AM

theorem takeNum_lebI (n : Int) (h : I64 n) (r : List UInt8) : takeNum (lebI n ++ r) = some (fold n, r) := takeNum_leb _ _ (fold_lt n h)
theorem lebI_unfold (u : Nat) : lebI (unfold' u) = leb u := by unfold lebI; rw [fold_unfold]
theorem opt_eta (o : OpT) (l : List Lab) (p q : Int) (a : List Ask) (h1 : o.2.1 = l) (h2 : o.2.2.1.1 = p) (h3 : o.2.2.1.2.1 = q) (h4 : o.2.2.2.1 = a) : o = (o.1, l, (p, q, ()), a, ()) := by
  obtain ⟨k, l', ⟨p', q', ⟨⟩⟩, a', ⟨⟩⟩ := o
  simp only at h1 h2 h3 h4
  rw [h1, h2, h3, h4]
theorem takeO_put (o : OpT) (ho : FitI o) (h : rightO o = true) (x : List UInt8) : takeO (putO o ++ x) = some (o, x) := by
  have e : takeO (putO o ++ x) = takeK o.1 ((if o.1 = 1 then putLb o.2.1 ++ lebI o.2.2.1.1 ++ lebI o.2.2.1.2.1 else if o.1 = 3 then lebI o.2.2.1.1 else if o.1 = 4 then putA o.2.2.2.1 else []) ++ x) := rfl
  rw [e]
  unfold rightO at h
  unfold takeK
  by_cases k1 : o.1 = 1
  · rw [if_pos k1] at h
    simp only [Bool.and_eq_true] at h
    simp only [if_pos k1, List.append_assoc, takeLb_put _ _ h.1, takeNum_lebI _ ho.p1, takeNum_lebI _ ho.p2, unfold_fold]
    rw [← opt_eta o o.2.1 _ _ [] rfl rfl rfl (noA_nil h.2)]
  · rw [if_neg k1] at h
    by_cases k4 : o.1 = 4
    · have k3 : ¬ o.1 = 3 := by rw [k4]; decide
      rw [if_pos k4] at h
      simp only [Bool.and_eq_true, z1, z2, beq_iff_eq] at h
      simp only [if_neg k1, if_neg k3, if_pos k4, takeA_put _ _ h.1]
      rw [← opt_eta o [] 0 0 _ (noL_nil h.2.1) h.2.2.1 h.2.2.2 rfl]
    · rw [if_neg k4] at h
      by_cases k3 : o.1 = 3
      · rw [if_pos k3] at h
        simp only [Bool.and_eq_true, z2, beq_iff_eq] at h
        simp only [if_neg k1, if_pos k3, takeNum_lebI _ ho.p1, unfold_fold]
        rw [← opt_eta o [] _ 0 [] (noL_nil h.1) rfl h.2.2 (noA_nil h.2.1)]
      · rw [if_neg k3] at h
        by_cases k2 : o.1 = 2
        · rw [if_pos k2] at h
          simp only [Bool.and_eq_true, z1, z2, beq_iff_eq] at h
          simp only [if_neg k1, if_neg k3, if_neg k4, if_pos k2, List.nil_append]
          rw [← opt_eta o [] 0 0 [] (noL_nil h.1) h.2.2.1 h.2.2.2 (noA_nil h.2.1)]
        · rw [if_neg k2] at h; cases h
theorem i64_0 : I64 0 := ⟨by decide, by decide⟩
theorem fit_of {o : OpT} (h : rightO o = true) (h1 : I64 o.2.2.1.1) (h2 : I64 o.2.2.1.2.1) : FitI o := by
  unfold rightO at h
  by_cases k1 : o.1 = 1
  · rw [if_pos k1] at h
    simp only [Bool.and_eq_true] at h
    obtain ⟨g1, _, g2⟩ := rightL_len h.1
    exact ⟨⟨by omega, by rw [noA_nil h.2]; simp, fun x hx => by have := g2 x hx; omega, fun x hx => by rw [noA_nil h.2] at hx; cases hx⟩, h1, h2⟩
  · rw [if_neg k1] at h
    by_cases k4 : o.1 = 4
    · rw [if_pos k4] at h
      simp only [Bool.and_eq_true] at h
      obtain ⟨g1, g2⟩ := rightA_len h.1
      exact ⟨⟨by rw [noL_nil h.2.1]; simp, by omega, fun x hx => (by rw [noL_nil h.2.1] at hx; cases hx), fun x hx => by have := (mayOk_len (g2 x hx)).1; omega⟩, h1, h2⟩
    · rw [if_neg k4] at h
      have hh : noL o = true ∧ noA o = true := by
        by_cases k3 : o.1 = 3
        · rw [if_pos k3] at h; simp only [Bool.and_eq_true] at h; exact ⟨h.1, h.2.1⟩
        · rw [if_neg k3] at h
          by_cases k2 : o.1 = 2
          · rw [if_pos k2] at h; simp only [Bool.and_eq_true] at h; exact ⟨h.1, h.2.1⟩
          · rw [if_neg k2] at h; cases h
      exact ⟨⟨by rw [noL_nil hh.1]; simp, by rw [noA_nil hh.2]; simp, fun x hx => (by rw [noL_nil hh.1] at hx; cases hx), fun x hx => (by rw [noA_nil hh.2] at hx; cases hx)⟩, h1, h2⟩
theorem takeO_some {b : List UInt8} {o : OpT} {r : List UInt8} (h : takeO b = some (o, r)) : rightO o = true ∧ b = putO o ++ r ∧ FitI o := by
  have key : rightO o = true ∧ b = putO o ++ r ∧ I64 o.2.2.1.1 ∧ I64 o.2.2.1.2.1 := by
    rcases b with _ | ⟨c, t⟩
    · cases h
    · have h : takeK c t = some (o, r) := h
      unfold takeK at h
      by_cases k1 : c = 1
      · rw [if_pos k1] at h
        split at h
        · cases h
        · rename_i l r1 hk
          split at h
          · cases h
          · rename_i u r2 hn1
            split at h
            · cases h
            · rename_i u2 r3 hn2
              simp only [Option.some.injEq, Prod.mk.injEq] at h
              obtain ⟨rfl, rfl⟩ := h
              obtain ⟨a1, a2⟩ := takeLb_some hk
              obtain ⟨b1, b2⟩ := takeNum_some hn1
              obtain ⟨c1, c2⟩ := takeNum_some hn2
              refine ⟨by unfold rightO noA; simp [k1, a1], ?_, unfold_I64 _ b1, unfold_I64 _ c1⟩
              unfold putO
              simp only [if_pos k1, lebI_unfold, List.cons_append, List.append_assoc]
              rw [a2, b2, c2]
      · rw [if_neg k1] at h
        by_cases k3 : c = 3
        · rw [if_pos k3] at h
          split at h
          · cases h
          · rename_i u r1 hn1
            simp only [Option.some.injEq, Prod.mk.injEq] at h
            obtain ⟨rfl, rfl⟩ := h
            obtain ⟨b1, b2⟩ := takeNum_some hn1
            refine ⟨by unfold rightO noA noL z2; simp [k3], ?_, unfold_I64 _ b1, i64_0⟩
            unfold putO
            simp only [if_neg k1, if_pos k3, lebI_unfold, List.cons_append]
            rw [b2]
        · rw [if_neg k3] at h
          by_cases k4 : c = 4
          · rw [if_pos k4] at h
            split at h
            · cases h
            · rename_i l r1 hk
              simp only [Option.some.injEq, Prod.mk.injEq] at h
              obtain ⟨rfl, rfl⟩ := h
              obtain ⟨a1, a2⟩ := takeA_some hk
              refine ⟨by unfold rightO noL z1 z2; simp [k4, a1], ?_, i64_0, i64_0⟩
              unfold putO
              simp only [if_neg k1, if_neg k3, if_pos k4, List.cons_append]
              rw [a2]
          · rw [if_neg k4] at h
            by_cases k2 : c = 2
            · rw [if_pos k2] at h
              simp only [Option.some.injEq, Prod.mk.injEq] at h
              obtain ⟨rfl, rfl⟩ := h
              refine ⟨by unfold rightO noL noA z1 z2; simp [k2], ?_, i64_0, i64_0⟩
              unfold putO
              simp only [if_neg k1, if_neg k3, if_neg k4, List.cons_append, List.nil_append]
            · rw [if_neg k2] at h; cases h
  exact ⟨key.1, key.2.1, fit_of key.1 key.2.2.1 key.2.2.2⟩
end Go.Proofs.Ytkadildabhkocaa
