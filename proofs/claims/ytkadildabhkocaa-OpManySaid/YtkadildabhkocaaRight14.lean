/- Proved here: what functions of the program compute, and plain laws. No condition. -/
import Derived.Test.YtkadildabhkocaaFew14
import Derived.Test.YtkadildabhkocaaRRight7
import Derived.Test.YtkadildabhkocaaRight5
set_option linter.unusedSimpArgs false
set_option linter.unusedVariables false
namespace Go.Proofs.Ytkadildabhkocaa
open Go Go.AM

def noL (o : OpT) : Bool := decide (o.2.1.length = 0)
def noA (o : OpT) : Bool := decide (o.2.2.2.1.length = 0)
def z1 (o : OpT) : Bool := o.2.2.1.1 == 0
def z2 (o : OpT) : Bool := o.2.2.1.2.1 == 0
def rightO (o : OpT) : Bool :=
  if o.1 = 1 then rightL o.2.1 && noA o
  else if o.1 = 4 then rightA o.2.2.2.1 && (noL o && (z1 o && z2 o))
  else if o.1 = 3 then noL o && (noA o && z2 o)
  else if o.1 = 2 then noL o && (noA o && (z1 o && z2 o))
  else false
structure Fit (o : OpT) : Prop where
  l : o.2.1.length ≤ 9223372036854775807
  a : o.2.2.2.1.length ≤ 9223372036854775807
  lx : ∀ x ∈ o.2.1, x.1.length ≤ 9223372036854775807 ∧ x.2.1.length ≤ 9223372036854775807
  ax : ∀ x ∈ o.2.2.2.1, x.2.1.length ≤ 9223372036854775807

theorem pt_zero (o : OpT) : eqLits [.int .i64, .int .i64] [.lit (.int .i64 o.2.2.1.1), .lit (.int .i64 o.2.2.1.2.1)] [.lit (.int .i64 0), .lit (.int .i64 0)] = some (z1 o && z2 o) := by
  simp only [eqLits, eqK, if_true, Bool.and_true, z1, z2]
theorem pt_zero2 (o : OpT) : eqLits [.int .i64, .int .i64] [.lit (.int .i64 0), .lit (.int .i64 o.2.2.1.2.1)] [.lit (.int .i64 0), .lit (.int .i64 0)] = some (z2 o) := by
  simp only [eqLits, eqK, if_true, Bool.and_true, z2, beq_self_eq_true, Bool.true_and]

set_option maxRecDepth 8000 in
set_option maxHeartbeats 1000000 in
theorem opRight (o : OpT) (h : Fit o) : AFun Try.prog 13 [.d (.agg (encO o))] [] (bool (rightO o)) [] := by
  refine AFun.of_walk hP Try.func13 rfl rfl rfl (by simp) rfl ?_
  have c1 : ((o.1.toNat : Int) == 1) = decide (o.1 = 1) := u8eq o.1 1 (by omega)
  have c2 : ((o.1.toNat : Int) == 2) = decide (o.1 = 2) := u8eq o.1 2 (by omega)
  have c3 : ((o.1.toNat : Int) == 3) = decide (o.1 = 3) := u8eq o.1 3 (by omega)
  have c4 : ((o.1.toNat : Int) == 4) = decide (o.1 = 4) := u8eq o.1 4 (by omega)
  have cL := labelRight o.2.1 h.l h.lx
  have cA := matchRight o.2.2.2.1 h.a h.ax
  have hz := pt_zero o
  have hz2 := pt_zero2 o
  have hl : decide ((0 : Int) < (o.2.1.length : Int)) = !noL o := by
    unfold noL
    by_cases q : o.2.1.length = 0
    · rw [decide_eq_true q, decide_eq_false (by omega)]; rfl
    · rw [decide_eq_false q, decide_eq_true (by omega)]; rfl
  have ha : decide ((0 : Int) < (o.2.2.2.1.length : Int)) = !noA o := by
    unfold noA
    by_cases q : o.2.2.2.1.length = 0
    · rw [decide_eq_true q, decide_eq_false (by omega)]; rfl
    · rw [decide_eq_false q, decide_eq_true (by omega)]; rfl
  by_cases h1 : o.1 = 1
  · have hr : rightO o = (rightL o.2.1 && noA o) := by unfold rightO; rw [if_pos h1]
    have d1 : decide (o.1 = 1) = true := decide_eq_true h1
    rw [hr]
    simp only [Try.f13, encO, hl, ha, c1, d1, am, simprocAttr, tys]
    refine ⟨by kernel_rfl, ?_⟩
    refine ACall.of (cL) [] [] rfl (by simp) (by simp) (by simp) (by repeat' (first | exact trivial | exact .inl rfl | exact .inr rfl | exact .inr ⟨rfl, by simp⟩ | exact .inr ⟨rfl, rfl, by simp⟩ | apply And.intro)) (by repeat' (first | exact trivial | rfl | exact (tkC_ren.1 _ _).symm | (simp; done) | apply And.intro)) (by first | exact .inl rfl | (refine .inr ⟨trivial, ?_⟩; first | (intro row h; rcases List.mem_singleton.1 h with rfl; exact nvB _) | (intro row h; cases h; done) | (simp; done)) | (refine .inr ⟨by simp [nvP, nvP.nvPs, nvD, nilS, errno], ?_⟩; first | (intro row h; rcases List.mem_singleton.1 h with rfl; exact nvB _) | (intro row h; cases h; done) | (simp [nvRow, nvD, nvP]; done))) ?_
    rcases rightL o.2.1 with _ | _
    · simp only [bool, Bool.false_and, FinR, evRes, evRVs, evRV, am, simprocAttr, tys]
      exact ⟨_, [], [], rfl, Ent.plain rfl rfl rfl trivial rfl, rfl, rfl⟩
    · simp only [bool, Bool.true_and, Bool.not_not, FinR, evRes, evRVs, evRV, am, simprocAttr, tys]
      exact ⟨_, [], [], rfl, Ent.plain rfl rfl rfl trivial rfl, rfl, rfl⟩
  · have d1 : decide (o.1 = 1) = false := decide_eq_false h1
    by_cases h4 : o.1 = 4
    · have hr : rightO o = (rightA o.2.2.2.1 && (noL o && (z1 o && z2 o))) := by unfold rightO; rw [if_neg h1, if_pos h4]
      have d4 : decide (o.1 = 4) = true := decide_eq_true h4
      rw [hr]
      simp only [Try.f13, encO, hl, ha, c1, d1, c4, d4, am, simprocAttr, tys]
      refine ⟨by kernel_rfl, ?_⟩
      refine ACall.of (cA) [] [] rfl (by simp) (by simp) (by simp) (by repeat' (first | exact trivial | exact .inl rfl | exact .inr rfl | exact .inr ⟨rfl, by simp⟩ | exact .inr ⟨rfl, rfl, by simp⟩ | apply And.intro)) (by repeat' (first | exact trivial | rfl | exact (tkC_ren.1 _ _).symm | (simp; done) | apply And.intro)) (by first | exact .inl rfl | (refine .inr ⟨trivial, ?_⟩; first | (intro row h; rcases List.mem_singleton.1 h with rfl; exact nvB _) | (intro row h; cases h; done) | (simp; done)) | (refine .inr ⟨by simp [nvP, nvP.nvPs, nvD, nilS, errno], ?_⟩; first | (intro row h; rcases List.mem_singleton.1 h with rfl; exact nvB _) | (intro row h; cases h; done) | (simp [nvRow, nvD, nvP]; done))) ?_
      rcases rightA o.2.2.2.1 with _ | _
      · simp only [bool, Bool.false_and, FinR, evRes, evRVs, evRV, am, simprocAttr, tys]
        exact ⟨_, [], [], rfl, Ent.plain rfl rfl rfl trivial rfl, rfl, rfl⟩
      · rcases hnl : noL o with _ | _
        · simp only [bool, Bool.true_and, Bool.false_and, Bool.not_not, hnl, hz, FinR, evRes, evRVs, evRV, am, simprocAttr, tys]
          exact ⟨_, [], [], rfl, Ent.plain rfl rfl rfl trivial rfl, rfl, rfl⟩
        · simp only [bool, Bool.true_and, Bool.not_not, hnl, hz, FinR, evRes, evRVs, evRV, am, simprocAttr, tys]
          exact ⟨_, [], [], rfl, Ent.plain rfl rfl rfl trivial rfl, rfl, rfl⟩
    · have d4 : decide (o.1 = 4) = false := decide_eq_false h4
      by_cases h3 : o.1 = 3
      · have hr : rightO o = (noL o && (noA o && z2 o)) := by unfold rightO; rw [if_neg h1, if_neg h4, if_pos h3]
        have d3 : decide (o.1 = 3) = true := decide_eq_true h3
        rw [hr]
        rcases hnl : noL o with _ | _
        · simp only [Try.f13, encO, hl, ha, hnl, c1, d1, c4, d4, c3, d3, bool, Bool.true_and, Bool.false_and, Bool.not_not, Bool.not_false, Bool.not_true, FinR, evRes, evRVs, evRV, am, simprocAttr, tys]
          exact ⟨by kernel_rfl, ⟨_, [], [], rfl, Ent.plain rfl rfl rfl trivial rfl, rfl, rfl⟩⟩
        · rcases hna : noA o with _ | _
          · simp only [Try.f13, encO, hl, ha, hnl, hna, c1, d1, c4, d4, c3, d3, bool, Bool.true_and, Bool.false_and, Bool.not_not, Bool.not_false, Bool.not_true, FinR, evRes, evRVs, evRV, am, simprocAttr, tys]
            exact ⟨by kernel_rfl, ⟨_, [], [], rfl, Ent.plain rfl rfl rfl trivial rfl, rfl, rfl⟩⟩
          · simp only [Try.f13, encO, hl, ha, hnl, hna, hz2, c1, d1, c4, d4, c3, d3, bool, Bool.true_and, Bool.false_and, Bool.not_not, Bool.not_false, Bool.not_true, FinR, evRes, evRVs, evRV, am, simprocAttr, tys]
            exact ⟨by kernel_rfl, ⟨_, [], [], rfl, Ent.plain rfl rfl rfl trivial rfl, rfl, rfl⟩⟩
      · have d3 : decide (o.1 = 3) = false := decide_eq_false h3
        by_cases h2 : o.1 = 2
        · have hr : rightO o = (noL o && (noA o && (z1 o && z2 o))) := by unfold rightO; rw [if_neg h1, if_neg h4, if_neg h3, if_pos h2]
          have d2 : decide (o.1 = 2) = true := decide_eq_true h2
          rw [hr]
          rcases hnl : noL o with _ | _
          · simp only [Try.f13, encO, hl, ha, hnl, c1, d1, c4, d4, c3, d3, c2, d2, bool, Bool.true_and, Bool.false_and, Bool.not_not, Bool.not_false, Bool.not_true, FinR, evRes, evRVs, evRV, am, simprocAttr, tys]
            exact ⟨by kernel_rfl, ⟨_, [], [], rfl, Ent.plain rfl rfl rfl trivial rfl, rfl, rfl⟩⟩
          · rcases hna : noA o with _ | _
            · simp only [Try.f13, encO, hl, ha, hnl, hna, c1, d1, c4, d4, c3, d3, c2, d2, bool, Bool.true_and, Bool.false_and, Bool.not_not, Bool.not_false, Bool.not_true, FinR, evRes, evRVs, evRV, am, simprocAttr, tys]
              exact ⟨by kernel_rfl, ⟨_, [], [], rfl, Ent.plain rfl rfl rfl trivial rfl, rfl, rfl⟩⟩
            · simp only [Try.f13, encO, hl, ha, hnl, hna, hz, c1, d1, c4, d4, c3, d3, c2, d2, bool, Bool.true_and, Bool.false_and, Bool.not_not, Bool.not_false, Bool.not_true, FinR, evRes, evRVs, evRV, am, simprocAttr, tys]
              exact ⟨by kernel_rfl, ⟨_, [], [], rfl, Ent.plain rfl rfl rfl trivial rfl, rfl, rfl⟩⟩
        · have d2 : decide (o.1 = 2) = false := decide_eq_false h2
          have hr : rightO o = false := by unfold rightO; rw [if_neg h1, if_neg h4, if_neg h3, if_neg h2]
          rw [hr]
          simp only [Try.f13, encO, hl, ha, c1, d1, c4, d4, c3, d3, c2, d2, bool, FinR, evRes, evRVs, evRV, am, simprocAttr, tys]
          exact ⟨by kernel_rfl, ⟨_, [], [], rfl, Ent.plain rfl rfl rfl trivial rfl, rfl, rfl⟩⟩

set_option maxRecDepth 8000 in
set_option maxHeartbeats 1000000 in
theorem refORight (o : OpT) (h : Fit o) : AFun Try.prog 14 [.d (.agg (encO o))] [] (bool (rightO o)) [] := by
  refine AFun.of_walk hP Try.func14 rfl rfl rfl (by simp) rfl ?_
  have c1 : ((o.1.toNat : Int) == 1) = decide (o.1 = 1) := u8eq o.1 1 (by omega)
  have c2 : ((o.1.toNat : Int) == 2) = decide (o.1 = 2) := u8eq o.1 2 (by omega)
  have c3 : ((o.1.toNat : Int) == 3) = decide (o.1 = 3) := u8eq o.1 3 (by omega)
  have c4 : ((o.1.toNat : Int) == 4) = decide (o.1 = 4) := u8eq o.1 4 (by omega)
  have cL := refRight5 o.2.1 h.l h.lx
  have cA := refRight o.2.2.2.1 h.a h.ax
  have hz := pt_zero o
  have hl : ((o.2.1.length : Int) == 0) = noL o := by
    unfold noL
    by_cases q : o.2.1.length = 0
    · rw [decide_eq_true q, beq_iff_eq]; omega
    · rw [decide_eq_false q, beq_eq_false_iff_ne]; omega
  have ha : ((o.2.2.2.1.length : Int) == 0) = noA o := by
    unfold noA
    by_cases q : o.2.2.2.1.length = 0
    · rw [decide_eq_true q, beq_iff_eq]; omega
    · rw [decide_eq_false q, beq_eq_false_iff_ne]; omega
  have hz2 : (o.2.2.1.2.1 == 0) = z2 o := rfl
  by_cases h1 : o.1 = 1
  · have hr : rightO o = (rightL o.2.1 && noA o) := by unfold rightO; rw [if_pos h1]
    have d1 : decide (o.1 = 1) = true := decide_eq_true h1
    rw [hr]
    simp only [Try.f14, encO, hl, ha, hz, c1, d1, am, simprocAttr, tys]
    refine ACall.of (cL) [] [] rfl (by simp) (by simp) (by simp) (by repeat' (first | exact trivial | exact .inl rfl | exact .inr rfl | exact .inr ⟨rfl, by simp⟩ | exact .inr ⟨rfl, rfl, by simp⟩ | apply And.intro)) (by repeat' (first | exact trivial | rfl | exact (tkC_ren.1 _ _).symm | (simp; done) | apply And.intro)) (by first | exact .inl rfl | (refine .inr ⟨trivial, ?_⟩; first | (intro row h; rcases List.mem_singleton.1 h with rfl; exact nvB _) | (intro row h; cases h; done) | (simp; done)) | (refine .inr ⟨by simp [nvP, nvP.nvPs, nvD, nilS, errno], ?_⟩; first | (intro row h; rcases List.mem_singleton.1 h with rfl; exact nvB _) | (intro row h; cases h; done) | (simp [nvRow, nvD, nvP]; done))) ?_
    rcases rightL o.2.1 with _ | _
    · simp only [bool, Bool.false_and, FinR, evRes, evRVs, evRV, am, simprocAttr, tys]
      exact ⟨_, [], [], rfl, Ent.plain rfl rfl rfl trivial rfl, rfl, rfl⟩
    · simp only [bool, Bool.true_and, ha, FinR, evRes, evRVs, evRV, am, simprocAttr, tys]
      exact ⟨_, [], [], rfl, Ent.plain rfl rfl rfl trivial rfl, rfl, rfl⟩
  · have d1 : decide (o.1 = 1) = false := decide_eq_false h1
    by_cases h2 : o.1 = 2
    · have h4 : ¬ o.1 = 4 := by rw [h2]; decide
      have h3 : ¬ o.1 = 3 := by rw [h2]; decide
      have hr : rightO o = (noL o && (noA o && (z1 o && z2 o))) := by unfold rightO; rw [if_neg h1, if_neg h4, if_neg h3, if_pos h2]
      have d2 : decide (o.1 = 2) = true := decide_eq_true h2
      rw [hr]
      rcases hnl : noL o with _ | _
      · simp only [Try.f14, encO, hl, ha, hz, hnl, c1, d1, c2, d2, bool, Bool.true_and, Bool.false_and, FinR, evRes, evRVs, evRV, am, simprocAttr, tys]
        exact ⟨_, [], [], rfl, Ent.plain rfl rfl rfl trivial rfl, rfl, rfl⟩
      · rcases hna : noA o with _ | _
        · simp only [Try.f14, encO, hl, ha, hz, hnl, hna, c1, d1, c2, d2, bool, Bool.true_and, Bool.false_and, FinR, evRes, evRVs, evRV, am, simprocAttr, tys]
          exact ⟨_, [], [], rfl, Ent.plain rfl rfl rfl trivial rfl, rfl, rfl⟩
        · simp only [Try.f14, encO, hl, ha, hz, hnl, hna, c1, d1, c2, d2, bool, Bool.true_and, Bool.false_and, FinR, evRes, evRVs, evRV, am, simprocAttr, tys]
          exact ⟨_, [], [], rfl, Ent.plain rfl rfl rfl trivial rfl, rfl, rfl⟩
    · have d2 : decide (o.1 = 2) = false := decide_eq_false h2
      by_cases h3 : o.1 = 3
      · have h4 : ¬ o.1 = 4 := by rw [h3]; decide
        have hr : rightO o = (noL o && (noA o && z2 o)) := by unfold rightO; rw [if_neg h1, if_neg h4, if_pos h3]
        have d3 : decide (o.1 = 3) = true := decide_eq_true h3
        rw [hr]
        rcases hnl : noL o with _ | _
        · simp only [Try.f14, encO, hl, ha, hz, hnl, c1, d1, c2, d2, c3, d3, bool, Bool.true_and, Bool.false_and, FinR, evRes, evRVs, evRV, am, simprocAttr, tys]
          exact ⟨_, [], [], rfl, Ent.plain rfl rfl rfl trivial rfl, rfl, rfl⟩
        · rcases hna : noA o with _ | _
          · simp only [Try.f14, encO, hl, ha, hz, hnl, hna, c1, d1, c2, d2, c3, d3, bool, Bool.true_and, Bool.false_and, FinR, evRes, evRVs, evRV, am, simprocAttr, tys]
            exact ⟨_, [], [], rfl, Ent.plain rfl rfl rfl trivial rfl, rfl, rfl⟩
          · simp only [Try.f14, encO, hl, ha, hz, hz2, hnl, hna, c1, d1, c2, d2, c3, d3, bool, Bool.true_and, Bool.false_and, FinR, evRes, evRVs, evRV, am, simprocAttr, tys]
            exact ⟨_, [], [], rfl, Ent.plain rfl rfl rfl trivial rfl, rfl, rfl⟩
      · have d3 : decide (o.1 = 3) = false := decide_eq_false h3
        by_cases h4 : o.1 = 4
        · have hr : rightO o = (rightA o.2.2.2.1 && (noL o && (z1 o && z2 o))) := by unfold rightO; rw [if_neg h1, if_pos h4]
          have d4 : decide (o.1 = 4) = true := decide_eq_true h4
          rw [hr]
          simp only [Try.f14, encO, hl, ha, hz, c1, d1, c2, d2, c3, d3, c4, d4, am, simprocAttr, tys]
          refine ACall.of (cA) [] [] rfl (by simp) (by simp) (by simp) (by repeat' (first | exact trivial | exact .inl rfl | exact .inr rfl | exact .inr ⟨rfl, by simp⟩ | exact .inr ⟨rfl, rfl, by simp⟩ | apply And.intro)) (by repeat' (first | exact trivial | rfl | exact (tkC_ren.1 _ _).symm | (simp; done) | apply And.intro)) (by first | exact .inl rfl | (refine .inr ⟨trivial, ?_⟩; first | (intro row h; rcases List.mem_singleton.1 h with rfl; exact nvB _) | (intro row h; cases h; done) | (simp; done)) | (refine .inr ⟨by simp [nvP, nvP.nvPs, nvD, nilS, errno], ?_⟩; first | (intro row h; rcases List.mem_singleton.1 h with rfl; exact nvB _) | (intro row h; cases h; done) | (simp [nvRow, nvD, nvP]; done))) ?_
          rcases rightA o.2.2.2.1 with _ | _
          · simp only [bool, Bool.false_and, FinR, evRes, evRVs, evRV, am, simprocAttr, tys]
            exact ⟨_, [], [], rfl, Ent.plain rfl rfl rfl trivial rfl, rfl, rfl⟩
          · rcases hnl : noL o with _ | _
            · simp only [bool, hl, hnl, Bool.true_and, Bool.false_and, FinR, evRes, evRVs, evRV, am, simprocAttr, tys]
              exact ⟨_, [], [], rfl, Ent.plain rfl rfl rfl trivial rfl, rfl, rfl⟩
            · simp only [bool, hl, hnl, Bool.true_and, FinR, evRes, evRVs, evRV, am, simprocAttr, tys]
              exact ⟨_, [], [], rfl, Ent.plain rfl rfl rfl trivial rfl, rfl, rfl⟩
        · have d4 : decide (o.1 = 4) = false := decide_eq_false h4
          have hr : rightO o = false := by unfold rightO; rw [if_neg h1, if_neg h4, if_neg h3, if_neg h2]
          rw [hr]
          simp only [Try.f14, encO, hl, ha, hz, c1, d1, c2, d2, c3, d3, c4, d4, bool, FinR, evRes, evRVs, evRV, am, simprocAttr, tys]
          exact ⟨_, [], [], rfl, Ent.plain rfl rfl rfl trivial rfl, rfl, rfl⟩
end Go.Proofs.Ytkadildabhkocaa
