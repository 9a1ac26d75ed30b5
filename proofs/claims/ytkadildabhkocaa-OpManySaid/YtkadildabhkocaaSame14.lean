/- Proved here: what functions of the program compute, and plain laws. No condition. -/
import Derived.Test.YtkadildabhkocaaEq14
set_option linter.unusedSimpArgs false
set_option linter.unusedVariables false
namespace Go.Proofs.Ytkadildabhkocaa
open Go Go.AM

/-! ## something that is done -/
abbrev Pt := Int × Int × Unit
abbrev OpT := UInt8 × List Lab × Pt × List Ask × Unit
def encO (o : OpT) : List DV := [.lit (.int .u8 o.1.toNat), .sl 2 (o.2.1.map encL), .lit (.int .i64 o.2.2.1.1), .lit (.int .i64 o.2.2.1.2.1), .sl 3 (o.2.2.2.1.map encA)]
def ptB (o p : OpT) : Bool := o.2.2.1.1 == p.2.2.1.1 && o.2.2.1.2.1 == p.2.2.1.2.1
def sameO (o p : OpT) : Bool := o.1 == p.1 && (ptB o p && (decide (o.2.1 = p.2.1) && decide (o.2.2.2.1 = p.2.2.2.1)))
theorem pt_cells (o p : OpT) : eqLits [.int .i64, .int .i64] [.lit (.int .i64 o.2.2.1.1), .lit (.int .i64 o.2.2.1.2.1)] [.lit (.int .i64 p.2.2.1.1), .lit (.int .i64 p.2.2.1.2.1)] = some (ptB o p) := by
  simp only [eqLits, eqK, if_true, Bool.and_true, ptB]

theorem opSame (o p : OpT) (h1 : o.2.1.length ≤ 9223372036854775807) (h2 : p.2.1.length ≤ 9223372036854775807) (h3 : o.2.2.2.1.length ≤ 9223372036854775807) (h4 : p.2.2.2.1.length ≤ 9223372036854775807) :
    AFun Try.prog 15 [.d (.agg (encO o)), .d (.agg (encO p))] [] (bool (sameO o p)) [] := by
  refine AFun.of_walk hP Try.func15 rfl rfl rfl (by simp) rfl ?_
  have e0 : ((o.1.toNat : Int) == (p.1.toNat : Int)) = (o.1 == p.1) := by
    rw [Bool.eq_iff_iff, beq_iff_eq, beq_iff_eq]
    constructor
    · intro h; apply UInt8.toNat_inj.1; omega
    · intro h; rw [h]
  have hc := pt_cells o p
  unfold sameO
  rcases q0 : o.1 == p.1 with _ | _
  · simp only [Try.f15, encO, e0, q0, bool, Bool.false_and, FinR, evRes, evRVs, evRV, am, simprocAttr, tys]
    exact ⟨_, [], [], rfl, Ent.plain rfl rfl rfl trivial rfl, rfl, rfl⟩
  · rcases q1 : ptB o p with _ | _
    · rw [q1] at hc
      simp only [Try.f15, encO, e0, q0, hc, bool, Bool.false_and, Bool.true_and, FinR, evRes, evRVs, evRV, am, simprocAttr, tys]
      exact ⟨_, [], [], rfl, Ent.plain rfl rfl rfl trivial rfl, rfl, rfl⟩
    · rw [q1] at hc
      simp only [Try.f15, encO, e0, q0, hc, bool, Bool.true_and, am, simprocAttr, tys]
      refine ACall.of (equalL o.2.1 p.2.1 h1 h2) [] [] rfl (by simp) (by simp) (by simp) (by repeat' (first | exact trivial | exact .inl rfl | exact .inr rfl | exact .inr ⟨rfl, by simp⟩ | exact .inr ⟨rfl, rfl, by simp⟩ | apply And.intro)) (by repeat' (first | exact trivial | rfl | exact (tkC_ren.1 _ _).symm | (simp; done) | apply And.intro)) (by first | exact .inl rfl | (refine .inr ⟨trivial, ?_⟩; first | (intro row h; rcases List.mem_singleton.1 h with rfl; exact nvB _) | (intro row h; cases h; done) | (simp; done)) | (refine .inr ⟨by simp [nvP, nvP.nvPs, nvD, nilS, errno], ?_⟩; first | (intro row h; rcases List.mem_singleton.1 h with rfl; exact nvB _) | (intro row h; cases h; done) | (simp [nvRow, nvD, nvP]; done))) ?_
      rcases q2 : decide (o.2.1 = p.2.1) with _ | _
      · simp only [bool, Bool.false_and, FinR, evRes, evRVs, evRV, am, simprocAttr, tys]
        exact ⟨_, [], [], rfl, Ent.plain rfl rfl rfl trivial rfl, rfl, rfl⟩
      · simp only [bool, Bool.true_and, am, simprocAttr, tys]
        refine ACall.of (equalA o.2.2.2.1 p.2.2.2.1 h3 h4) [] [] rfl (by simp) (by simp) (by simp) (by repeat' (first | exact trivial | exact .inl rfl | exact .inr rfl | exact .inr ⟨rfl, by simp⟩ | exact .inr ⟨rfl, rfl, by simp⟩ | apply And.intro)) (by repeat' (first | exact trivial | rfl | exact (tkC_ren.1 _ _).symm | (simp; done) | apply And.intro)) (by first | exact .inl rfl | (refine .inr ⟨trivial, ?_⟩; first | (intro row h; rcases List.mem_singleton.1 h with rfl; exact nvB _) | (intro row h; cases h; done) | (simp; done)) | (refine .inr ⟨by simp [nvP, nvP.nvPs, nvD, nilS, errno], ?_⟩; first | (intro row h; rcases List.mem_singleton.1 h with rfl; exact nvB _) | (intro row h; cases h; done) | (simp [nvRow, nvD, nvP]; done))) ?_
        simp only [bool, FinR, evRes, evRVs, evRV, am, simprocAttr, tys]
        exact ⟨_, [], [], rfl, Ent.plain rfl rfl rfl trivial rfl, rfl, rfl⟩

theorem refOSame (o p : OpT) (h1 : o.2.1.length ≤ 9223372036854775807) (h2 : p.2.1.length ≤ 9223372036854775807) (h3 : o.2.2.2.1.length ≤ 9223372036854775807) (h4 : p.2.2.2.1.length ≤ 9223372036854775807) :
    AFun Try.prog 16 [.d (.agg (encO o)), .d (.agg (encO p))] [] (bool (sameO o p)) [] := by
  refine AFun.of_walk hP Try.func16 rfl rfl rfl (by simp) rfl ?_
  have e0 : ((o.1.toNat : Int) == (p.1.toNat : Int)) = (o.1 == p.1) := by
    rw [Bool.eq_iff_iff, beq_iff_eq, beq_iff_eq]
    constructor
    · intro h; apply UInt8.toNat_inj.1; omega
    · intro h; rw [h]
  have hc := pt_cells o p
  unfold sameO
  rcases q0 : o.1 == p.1 with _ | _
  · simp only [Try.f16, encO, e0, q0, bool, Bool.false_and, FinR, evRes, evRVs, evRV, am, simprocAttr, tys]
    exact ⟨_, [], [], rfl, Ent.plain rfl rfl rfl trivial rfl, rfl, rfl⟩
  · rcases q1 : ptB o p with _ | _
    · rw [q1] at hc
      simp only [Try.f16, encO, e0, q0, hc, bool, Bool.false_and, Bool.true_and, FinR, evRes, evRVs, evRV, am, simprocAttr, tys]
      exact ⟨_, [], [], rfl, Ent.plain rfl rfl rfl trivial rfl, rfl, rfl⟩
    · rw [q1] at hc
      simp only [Try.f16, encO, e0, q0, hc, bool, Bool.true_and, am, simprocAttr, tys]
      refine ACall.of (same5 o.2.1 p.2.1 h1 h2) [] [] rfl (by simp) (by simp) (by simp) (by repeat' (first | exact trivial | exact .inl rfl | exact .inr rfl | exact .inr ⟨rfl, by simp⟩ | exact .inr ⟨rfl, rfl, by simp⟩ | apply And.intro)) (by repeat' (first | exact trivial | rfl | exact (tkC_ren.1 _ _).symm | (simp; done) | apply And.intro)) (by first | exact .inl rfl | (refine .inr ⟨trivial, ?_⟩; first | (intro row h; rcases List.mem_singleton.1 h with rfl; exact nvB _) | (intro row h; cases h; done) | (simp; done)) | (refine .inr ⟨by simp [nvP, nvP.nvPs, nvD, nilS, errno], ?_⟩; first | (intro row h; rcases List.mem_singleton.1 h with rfl; exact nvB _) | (intro row h; cases h; done) | (simp [nvRow, nvD, nvP]; done))) ?_
      rcases q2 : decide (o.2.1 = p.2.1) with _ | _
      · simp only [bool, Bool.false_and, FinR, evRes, evRVs, evRV, am, simprocAttr, tys]
        exact ⟨_, [], [], rfl, Ent.plain rfl rfl rfl trivial rfl, rfl, rfl⟩
      · simp only [bool, Bool.true_and, am, simprocAttr, tys]
        refine ACall.of (same7 o.2.2.2.1 p.2.2.2.1 h3 h4) [] [] rfl (by simp) (by simp) (by simp) (by repeat' (first | exact trivial | exact .inl rfl | exact .inr rfl | exact .inr ⟨rfl, by simp⟩ | exact .inr ⟨rfl, rfl, by simp⟩ | apply And.intro)) (by repeat' (first | exact trivial | rfl | exact (tkC_ren.1 _ _).symm | (simp; done) | apply And.intro)) (by first | exact .inl rfl | (refine .inr ⟨trivial, ?_⟩; first | (intro row h; rcases List.mem_singleton.1 h with rfl; exact nvB _) | (intro row h; cases h; done) | (simp; done)) | (refine .inr ⟨by simp [nvP, nvP.nvPs, nvD, nilS, errno], ?_⟩; first | (intro row h; rcases List.mem_singleton.1 h with rfl; exact nvB _) | (intro row h; cases h; done) | (simp [nvRow, nvD, nvP]; done))) ?_
        simp only [bool, FinR, evRes, evRVs, evRV, am, simprocAttr, tys]
        exact ⟨_, [], [], rfl, Ent.plain rfl rfl rfl trivial rfl, rfl, rfl⟩
end Go.Proofs.Ytkadildabhkocaa
