/- Proved here: what functions of the program compute, and plain laws. No condition. -/
import Derived.Test.YtkadildabhkocaaRight14
import Derived.Test.YtkadildabhkocaaPut5
import Derived.Test.YtkadildabhkocaaPut7
import Derived.Test.YtkadildabhkocaaLay
set_option linter.unusedSimpArgs false
set_option linter.unusedVariables false
namespace Go.Proofs.Ytkadildabhkocaa
open Go Go.AM

def putO (o : OpT) : List UInt8 := o.1 :: (if o.1 = 1 then putLb o.2.1 ++ lebI o.2.2.1.1 ++ lebI o.2.2.1.2.1 else if o.1 = 3 then lebI o.2.2.1.1 else if o.1 = 4 then putA o.2.2.2.1 else [])
structure FitI (o : OpT) : Prop extends Fit o where
  p1 : I64 o.2.2.1.1
  p2 : I64 o.2.2.1.2.1
theorem lebI_len (n : Int) (h : I64 n) : (lebI n).length ≤ 10 := leb_ten _ (fold_lt n h)

theorem opPutN (o : OpT) (h : FitI o) (hr : rightO o = false) : AFun Try.prog 10 [.d (.agg (encO o))] [] (.tup [nilS, errno 1]) [] := by
  refine AFun.of_walk hP Try.func10 rfl rfl rfl (by simp) rfl ?_
  have c := opRight o h.toFit
  rw [hr] at c
  simp only [encO] at c
  simp only [Try.f10, encO, am, simprocAttr, tys]
  refine ACall.of (c) [] [] rfl (by simp) (by simp) (by simp) (by repeat' (first | exact trivial | exact .inl rfl | exact .inr rfl | exact .inr ⟨rfl, by simp⟩ | exact .inr ⟨rfl, rfl, by simp⟩ | apply And.intro)) (by repeat' (first | exact trivial | rfl | exact (tkC_ren.1 _ _).symm | (simp; done) | apply And.intro)) (by first | exact .inl rfl | (refine .inr ⟨trivial, ?_⟩; first | (intro row h; rcases List.mem_singleton.1 h with rfl; exact nvB _) | (intro row h; cases h; done) | (simp; done)) | (refine .inr ⟨by simp [nvP, nvP.nvPs, nvD, nilS, errno], ?_⟩; first | (intro row h; rcases List.mem_singleton.1 h with rfl; exact nvB _) | (intro row h; cases h; done) | (simp [nvRow, nvD, nvP]; done))) ?_
  simp only [bool, nilS, errno, FinR, evRes, evRVs, evRV, am, simprocAttr, tys]
  exact ⟨_, [], [], rfl, Ent.plain rfl rfl rfl trivial rfl, rfl, rfl⟩

set_option maxRecDepth 8000 in
set_option maxHeartbeats 1000000 in
theorem opPut (o : OpT) (h : FitI o) (hr : rightO o = true) : AFun Try.prog 10 [.d (.agg (encO o))] [] (.tup [.own 0, errno 0]) [.own 1 ((putO o).map encB)] := by
  refine AFun.of_walk hP Try.func10 rfl rfl rfl (by simp) rfl ?_
  have c := opRight o h.toFit
  rw [hr] at c
  simp only [encO] at c
  have c1 : ((o.1.toNat : Int) == 1) = decide (o.1 = 1) := u8eq o.1 1 (by omega)
  have c3 : ((o.1.toNat : Int) == 3) = decide (o.1 = 3) := u8eq o.1 3 (by omega)
  have c4 : ((o.1.toNat : Int) == 4) = decide (o.1 = 4) := u8eq o.1 4 (by omega)
  have l1 := lebI_len _ h.p1
  have l2 := lebI_len _ h.p2
  have eb : ∀ x : List UInt8, [[DV.lit (.int .u8 (o.1.toNat : Int))]] ++ x.map encB = (o.1 :: x).map encB := fun x => rfl
  have eb1 : [[DV.lit (.int .u8 (o.1.toNat : Int))]] = [o.1].map encB := rfl
  by_cases h1 : o.1 = 1
  · have d1 : decide (o.1 = 1) = true := decide_eq_true h1
    have hl : rightL o.2.1 = true := by unfold rightO at hr; rw [if_pos h1] at hr; exact (Bool.and_eq_true _ _ ▸ hr).1
    have hpl := putLb_len hl
    have e : putO o = ([o.1] ++ putLb o.2.1) ++ lebI o.2.2.1.1 ++ lebI o.2.2.1.2.1 := by unfold putO; rw [if_pos h1]; simp
    have q1 := octsPutInt ([o.1] ++ putLb o.2.1) o.2.2.1.1 (by rw [List.length_append]; simp; omega) h.p1
    have q2 := octsPutInt ([o.1] ++ putLb o.2.1 ++ lebI o.2.2.1.1) o.2.2.1.2.1 (by rw [List.length_append, List.length_append]; simp; omega) h.p2
    rw [e]
    simp only [Try.f10, encO, am, simprocAttr, tys]
    refine ACall.of (c) [] [] rfl (by simp) (by simp) (by simp) (by repeat' (first | exact trivial | exact .inl rfl | exact .inr rfl | exact .inr ⟨rfl, by simp⟩ | exact .inr ⟨rfl, rfl, by simp⟩ | apply And.intro)) (by repeat' (first | exact trivial | rfl | exact (tkC_ren.1 _ _).symm | (simp; done) | apply And.intro)) (by first | exact .inl rfl | (refine .inr ⟨trivial, ?_⟩; first | (intro row h; rcases List.mem_singleton.1 h with rfl; exact nvB _) | (intro row h; cases h; done) | (simp; done)) | (refine .inr ⟨by simp [nvP, nvP.nvPs, nvD, nilS, errno], ?_⟩; first | (intro row h; rcases List.mem_singleton.1 h with rfl; exact nvB _) | (intro row h; cases h; done) | (simp [nvRow, nvD, nvP]; done))) ?_
    simp only [bool, c1, d1, am, simprocAttr, tys]
    refine ACall.of (labelPut o.2.1 h.l h.lx hl) [] [] rfl (by simp) (by simp) (by simp) (by repeat' (first | exact trivial | exact .inl rfl | exact .inr rfl | exact .inr ⟨rfl, by simp⟩ | exact .inr ⟨rfl, rfl, by simp⟩ | apply And.intro)) (by repeat' (first | exact trivial | rfl | exact (tkC_ren.1 _ _).symm | (simp; done) | apply And.intro)) (by first | exact .inl rfl | (refine .inr ⟨trivial, ?_⟩; first | (intro row h; rcases List.mem_singleton.1 h with rfl; exact nvB _) | (intro row h; cases h; done) | (simp; done)) | (refine .inr ⟨by simp [nvP, nvP.nvPs, nvD, nilS, errno], ?_⟩; first | (intro row h; rcases List.mem_singleton.1 h with rfl; exact nvB _) | (intro row h; cases h; done) | (simp [nvRow, nvD, nvP]; done))) ?_
    simp only [errno, eb1, ← List.map_append, am, simprocAttr, tys]
    refine ⟨by simp; omega, ?_⟩
    refine ACallD.of (q1) (by kernel_rfl) [] [131] rfl (by simp) (by simp) (by simp) (by simp) (by repeat' (first | exact trivial | exact .inl rfl | exact .inr rfl | exact .inr ⟨rfl, by simp⟩ | exact .inr ⟨rfl, rfl, by simp⟩ | apply And.intro)) (by repeat' (first | exact trivial | rfl | exact (tkC_ren.1 _ _).symm | (simp; done) | apply And.intro)) (by first | exact .inl rfl | (refine .inr ⟨trivial, ?_⟩; first | (intro row h; rcases List.mem_singleton.1 h with rfl; exact nvB _) | (intro row h; cases h; done) | (simp; done)) | (refine .inr ⟨by simp [nvP, nvP.nvPs, nvD, nilS, errno], ?_⟩; first | (intro row h; rcases List.mem_singleton.1 h with rfl; exact nvB _) | (intro row h; cases h; done) | (simp [nvRow, nvD, nvP]; done))) rfl rfl rfl rfl ?_
    simp only [am, simprocAttr, tys]
    refine ACallD.of (q2) (by kernel_rfl) [] [387] rfl (by simp) (by simp) (by simp) (by simp) (by repeat' (first | exact trivial | exact .inl rfl | exact .inr rfl | exact .inr ⟨rfl, by simp⟩ | exact .inr ⟨rfl, rfl, by simp⟩ | apply And.intro)) (by repeat' (first | exact trivial | rfl | exact (tkC_ren.1 _ _).symm | (simp; done) | apply And.intro)) (by first | exact .inl rfl | (refine .inr ⟨trivial, ?_⟩; first | (intro row h; rcases List.mem_singleton.1 h with rfl; exact nvB _) | (intro row h; cases h; done) | (simp; done)) | (refine .inr ⟨by simp [nvP, nvP.nvPs, nvD, nilS, errno], ?_⟩; first | (intro row h; rcases List.mem_singleton.1 h with rfl; exact nvB _) | (intro row h; cases h; done) | (simp [nvRow, nvD, nvP]; done))) rfl rfl rfl rfl ?_
    simp only [errno, FinR, evRes, evRVs, evRV, am, simprocAttr, tys]
    exact ⟨by kernel_rfl, ⟨_, [], [643], rfl, ⟨rfl, rfl, by simp, (fun i hi => absurd hi (Nat.not_lt_zero _)), trivial, ⟨.inr ⟨by decide, rfl⟩, trivial⟩, rfl, by decide, rfl, (by first | rfl | simp [scRow, tkC_scs])⟩, rfl, rfl⟩⟩
  · have d1 : decide (o.1 = 1) = false := decide_eq_false h1
    by_cases h3 : o.1 = 3
    · have d3 : decide (o.1 = 3) = true := decide_eq_true h3
      have e : putO o = [o.1] ++ lebI o.2.2.1.1 := by unfold putO; rw [if_neg h1, if_pos h3]; rfl
      have q1 := octsPutInt [o.1] o.2.2.1.1 (by simp) h.p1
      rw [e]
      simp only [Try.f10, encO, am, simprocAttr, tys]
      refine ACall.of (c) [] [] rfl (by simp) (by simp) (by simp) (by repeat' (first | exact trivial | exact .inl rfl | exact .inr rfl | exact .inr ⟨rfl, by simp⟩ | exact .inr ⟨rfl, rfl, by simp⟩ | apply And.intro)) (by repeat' (first | exact trivial | rfl | exact (tkC_ren.1 _ _).symm | (simp; done) | apply And.intro)) (by first | exact .inl rfl | (refine .inr ⟨trivial, ?_⟩; first | (intro row h; rcases List.mem_singleton.1 h with rfl; exact nvB _) | (intro row h; cases h; done) | (simp; done)) | (refine .inr ⟨by simp [nvP, nvP.nvPs, nvD, nilS, errno], ?_⟩; first | (intro row h; rcases List.mem_singleton.1 h with rfl; exact nvB _) | (intro row h; cases h; done) | (simp [nvRow, nvD, nvP]; done))) ?_
      simp only [bool, c1, d1, c3, d3, am, simprocAttr, tys]
      refine ACall.of (q1) [] [1] rfl (by simp) (by simp) (by simp) (by repeat' (first | exact trivial | exact .inl rfl | exact .inr rfl | exact .inr ⟨rfl, by simp⟩ | exact .inr ⟨rfl, rfl, by simp⟩ | apply And.intro)) (by repeat' (first | exact trivial | rfl | exact (tkC_ren.1 _ _).symm | (simp; done) | apply And.intro)) (by first | exact .inl rfl | (refine .inr ⟨trivial, ?_⟩; first | (intro row h; rcases List.mem_singleton.1 h with rfl; exact nvB _) | (intro row h; cases h; done) | (simp; done)) | (refine .inr ⟨by simp [nvP, nvP.nvPs, nvD, nilS, errno], ?_⟩; first | (intro row h; rcases List.mem_singleton.1 h with rfl; exact nvB _) | (intro row h; cases h; done) | (simp [nvRow, nvD, nvP]; done))) ?_
      simp only [errno, FinR, evRes, evRVs, evRV, am, simprocAttr, tys]
      exact ⟨_, [], [2], rfl, ⟨rfl, rfl, by simp, (fun i hi => absurd hi (Nat.not_lt_zero _)), trivial, ⟨.inr ⟨by decide, rfl⟩, trivial⟩, rfl, by decide, rfl, (by first | rfl | simp [scRow, tkC_scs])⟩, rfl, rfl⟩
    · have d3 : decide (o.1 = 3) = false := decide_eq_false h3
      by_cases h4 : o.1 = 4
      · have d4 : decide (o.1 = 4) = true := decide_eq_true h4
        have ha : rightA o.2.2.2.1 = true := by unfold rightO at hr; rw [if_neg h1, if_pos h4] at hr; exact (Bool.and_eq_true _ _ ▸ hr).1
        have hpl := putA_len ha
        have e : putO o = [o.1] ++ putA o.2.2.2.1 := by unfold putO; rw [if_neg h1, if_neg h3, if_pos h4]; rfl
        rw [e]
        simp only [Try.f10, encO, am, simprocAttr, tys]
        refine ACall.of (c) [] [] rfl (by simp) (by simp) (by simp) (by repeat' (first | exact trivial | exact .inl rfl | exact .inr rfl | exact .inr ⟨rfl, by simp⟩ | exact .inr ⟨rfl, rfl, by simp⟩ | apply And.intro)) (by repeat' (first | exact trivial | rfl | exact (tkC_ren.1 _ _).symm | (simp; done) | apply And.intro)) (by first | exact .inl rfl | (refine .inr ⟨trivial, ?_⟩; first | (intro row h; rcases List.mem_singleton.1 h with rfl; exact nvB _) | (intro row h; cases h; done) | (simp; done)) | (refine .inr ⟨by simp [nvP, nvP.nvPs, nvD, nilS, errno], ?_⟩; first | (intro row h; rcases List.mem_singleton.1 h with rfl; exact nvB _) | (intro row h; cases h; done) | (simp [nvRow, nvD, nvP]; done))) ?_
        simp only [bool, c1, d1, c3, d3, c4, d4, am, simprocAttr, tys]
        refine ACall.of (matchPut o.2.2.2.1 h.a h.ax ha) [] [] rfl (by simp) (by simp) (by simp) (by repeat' (first | exact trivial | exact .inl rfl | exact .inr rfl | exact .inr ⟨rfl, by simp⟩ | exact .inr ⟨rfl, rfl, by simp⟩ | apply And.intro)) (by repeat' (first | exact trivial | rfl | exact (tkC_ren.1 _ _).symm | (simp; done) | apply And.intro)) (by first | exact .inl rfl | (refine .inr ⟨trivial, ?_⟩; first | (intro row h; rcases List.mem_singleton.1 h with rfl; exact nvB _) | (intro row h; cases h; done) | (simp; done)) | (refine .inr ⟨by simp [nvP, nvP.nvPs, nvD, nilS, errno], ?_⟩; first | (intro row h; rcases List.mem_singleton.1 h with rfl; exact nvB _) | (intro row h; cases h; done) | (simp [nvRow, nvD, nvP]; done))) ?_
        simp only [errno, eb1, ← List.map_append, FinR, evRes, evRVs, evRV, am, simprocAttr, tys]
        exact ⟨by simp; omega, ⟨_, [], [3], rfl, ⟨rfl, rfl, by simp, (fun i hi => absurd hi (Nat.not_lt_zero _)), trivial, ⟨.inr ⟨by decide, rfl⟩, trivial⟩, rfl, by decide, rfl, (by first | rfl | simp [scRow, tkC_scs])⟩, rfl, rfl⟩⟩
      · have d4 : decide (o.1 = 4) = false := decide_eq_false h4
        have e : putO o = [o.1] := by unfold putO; rw [if_neg h1, if_neg h3, if_neg h4]
        rw [e]
        simp only [Try.f10, encO, am, simprocAttr, tys]
        refine ACall.of (c) [] [] rfl (by simp) (by simp) (by simp) (by repeat' (first | exact trivial | exact .inl rfl | exact .inr rfl | exact .inr ⟨rfl, by simp⟩ | exact .inr ⟨rfl, rfl, by simp⟩ | apply And.intro)) (by repeat' (first | exact trivial | rfl | exact (tkC_ren.1 _ _).symm | (simp; done) | apply And.intro)) (by first | exact .inl rfl | (refine .inr ⟨trivial, ?_⟩; first | (intro row h; rcases List.mem_singleton.1 h with rfl; exact nvB _) | (intro row h; cases h; done) | (simp; done)) | (refine .inr ⟨by simp [nvP, nvP.nvPs, nvD, nilS, errno], ?_⟩; first | (intro row h; rcases List.mem_singleton.1 h with rfl; exact nvB _) | (intro row h; cases h; done) | (simp [nvRow, nvD, nvP]; done))) ?_
        simp only [bool, c1, d1, c3, d3, c4, d4, errno, FinR, evRes, evRVs, evRV, am, simprocAttr, tys]
        exact ⟨_, [], [1], rfl, ⟨rfl, rfl, by simp, (fun i hi => absurd hi (Nat.not_lt_zero _)), trivial, ⟨.inr ⟨by decide, rfl⟩, trivial⟩, rfl, by decide, rfl, (by first | rfl | simp [scRow, tkC_scs])⟩, rfl, rfl⟩

theorem refOPutN (o : OpT) (h : FitI o) (hr : rightO o = false) : AFun Try.prog 11 [.d (.agg (encO o))] [] (.tup [nilS, errno 1]) [] := by
  refine AFun.of_walk hP Try.func11 rfl rfl rfl (by simp) rfl ?_
  have c := refORight o h.toFit
  rw [hr] at c
  simp only [encO] at c
  simp only [Try.f11, encO, am, simprocAttr, tys]
  refine ACall.of (c) [] [] rfl (by simp) (by simp) (by simp) (by repeat' (first | exact trivial | exact .inl rfl | exact .inr rfl | exact .inr ⟨rfl, by simp⟩ | exact .inr ⟨rfl, rfl, by simp⟩ | apply And.intro)) (by repeat' (first | exact trivial | rfl | exact (tkC_ren.1 _ _).symm | (simp; done) | apply And.intro)) (by first | exact .inl rfl | (refine .inr ⟨trivial, ?_⟩; first | (intro row h; rcases List.mem_singleton.1 h with rfl; exact nvB _) | (intro row h; cases h; done) | (simp; done)) | (refine .inr ⟨by simp [nvP, nvP.nvPs, nvD, nilS, errno], ?_⟩; first | (intro row h; rcases List.mem_singleton.1 h with rfl; exact nvB _) | (intro row h; cases h; done) | (simp [nvRow, nvD, nvP]; done))) ?_
  simp only [bool, nilS, errno, FinR, evRes, evRVs, evRV, am, simprocAttr, tys]
  exact ⟨_, [], [], rfl, Ent.plain rfl rfl rfl trivial rfl, rfl, rfl⟩

set_option maxRecDepth 8000 in
set_option maxHeartbeats 1000000 in
theorem refOPut (o : OpT) (h : FitI o) (hr : rightO o = true) : AFun Try.prog 11 [.d (.agg (encO o))] [] (.tup [.own 0, errno 0]) [.own 1 ((putO o).map encB)] := by
  refine AFun.of_walk hP Try.func11 rfl rfl rfl (by simp) rfl ?_
  have c := refORight o h.toFit
  rw [hr] at c
  simp only [encO] at c
  have c1 : ((o.1.toNat : Int) == 1) = decide (o.1 = 1) := u8eq o.1 1 (by omega)
  have c3 : ((o.1.toNat : Int) == 3) = decide (o.1 = 3) := u8eq o.1 3 (by omega)
  have c4 : ((o.1.toNat : Int) == 4) = decide (o.1 = 4) := u8eq o.1 4 (by omega)
  have l1 := lebI_len _ h.p1
  have l2 := lebI_len _ h.p2
  have eb1 : [[DV.lit (.int .u8 (o.1.toNat : Int))]] = [o.1].map encB := rfl
  by_cases h1 : o.1 = 1
  · have d1 : decide (o.1 = 1) = true := decide_eq_true h1
    have hl : rightL o.2.1 = true := by unfold rightO at hr; rw [if_pos h1] at hr; exact (Bool.and_eq_true _ _ ▸ hr).1
    have hpl := putLb_len hl
    have e : putO o = ([o.1] ++ putLb o.2.1) ++ lebI o.2.2.1.1 ++ lebI o.2.2.1.2.1 := by unfold putO; rw [if_pos h1]; simp
    have q1 := refPutInt ([o.1] ++ putLb o.2.1) o.2.2.1.1 (by rw [List.length_append]; simp; omega) h.p1
    have q2 := refPutInt ([o.1] ++ putLb o.2.1 ++ lebI o.2.2.1.1) o.2.2.1.2.1 (by rw [List.length_append, List.length_append]; simp; omega) h.p2
    rw [e]
    simp only [Try.f11, encO, am, simprocAttr, tys]
    refine ACall.of (c) [] [] rfl (by simp) (by simp) (by simp) (by repeat' (first | exact trivial | exact .inl rfl | exact .inr rfl | exact .inr ⟨rfl, by simp⟩ | exact .inr ⟨rfl, rfl, by simp⟩ | apply And.intro)) (by repeat' (first | exact trivial | rfl | exact (tkC_ren.1 _ _).symm | (simp; done) | apply And.intro)) (by first | exact .inl rfl | (refine .inr ⟨trivial, ?_⟩; first | (intro row h; rcases List.mem_singleton.1 h with rfl; exact nvB _) | (intro row h; cases h; done) | (simp; done)) | (refine .inr ⟨by simp [nvP, nvP.nvPs, nvD, nilS, errno], ?_⟩; first | (intro row h; rcases List.mem_singleton.1 h with rfl; exact nvB _) | (intro row h; cases h; done) | (simp [nvRow, nvD, nvP]; done))) ?_
    simp only [bool, c1, d1, am, simprocAttr, tys]
    refine ACall.of (refLPut o.2.1 h.l h.lx hl) [] [] rfl (by simp) (by simp) (by simp) (by repeat' (first | exact trivial | exact .inl rfl | exact .inr rfl | exact .inr ⟨rfl, by simp⟩ | exact .inr ⟨rfl, rfl, by simp⟩ | apply And.intro)) (by repeat' (first | exact trivial | rfl | exact (tkC_ren.1 _ _).symm | (simp; done) | apply And.intro)) (by first | exact .inl rfl | (refine .inr ⟨trivial, ?_⟩; first | (intro row h; rcases List.mem_singleton.1 h with rfl; exact nvB _) | (intro row h; cases h; done) | (simp; done)) | (refine .inr ⟨by simp [nvP, nvP.nvPs, nvD, nilS, errno], ?_⟩; first | (intro row h; rcases List.mem_singleton.1 h with rfl; exact nvB _) | (intro row h; cases h; done) | (simp [nvRow, nvD, nvP]; done))) ?_
    simp only [errno, eb1, ← List.map_append, am, simprocAttr, tys]
    refine ⟨by simp; omega, ?_⟩
    refine ACall.of (q1) [] [3] rfl (by simp) (by simp) (by simp) (by repeat' (first | exact trivial | exact .inl rfl | exact .inr rfl | exact .inr ⟨rfl, by simp⟩ | exact .inr ⟨rfl, rfl, by simp⟩ | apply And.intro)) (by repeat' (first | exact trivial | rfl | exact (tkC_ren.1 _ _).symm | (simp; done) | apply And.intro)) (by first | exact .inl rfl | (refine .inr ⟨trivial, ?_⟩; first | (intro row h; rcases List.mem_singleton.1 h with rfl; exact nvB _) | (intro row h; cases h; done) | (simp; done)) | (refine .inr ⟨by simp [nvP, nvP.nvPs, nvD, nilS, errno], ?_⟩; first | (intro row h; rcases List.mem_singleton.1 h with rfl; exact nvB _) | (intro row h; cases h; done) | (simp [nvRow, nvD, nvP]; done))) ?_
    simp only [am, simprocAttr, tys]
    refine ACall.of (q2) [] [4] rfl (by simp) (by simp) (by simp) (by repeat' (first | exact trivial | exact .inl rfl | exact .inr rfl | exact .inr ⟨rfl, by simp⟩ | exact .inr ⟨rfl, rfl, by simp⟩ | apply And.intro)) (by repeat' (first | exact trivial | rfl | exact (tkC_ren.1 _ _).symm | (simp; done) | apply And.intro)) (by first | exact .inl rfl | (refine .inr ⟨trivial, ?_⟩; first | (intro row h; rcases List.mem_singleton.1 h with rfl; exact nvB _) | (intro row h; cases h; done) | (simp; done)) | (refine .inr ⟨by simp [nvP, nvP.nvPs, nvD, nilS, errno], ?_⟩; first | (intro row h; rcases List.mem_singleton.1 h with rfl; exact nvB _) | (intro row h; cases h; done) | (simp [nvRow, nvD, nvP]; done))) ?_
    simp only [errno, FinR, evRes, evRVs, evRV, am, simprocAttr, tys]
    exact ⟨_, [], [5], rfl, ⟨rfl, rfl, by simp, (fun i hi => absurd hi (Nat.not_lt_zero _)), trivial, ⟨.inr ⟨by decide, rfl⟩, trivial⟩, rfl, by decide, rfl, (by first | rfl | simp [scRow, tkC_scs])⟩, rfl, rfl⟩
  · have d1 : decide (o.1 = 1) = false := decide_eq_false h1
    by_cases h3 : o.1 = 3
    · have d3 : decide (o.1 = 3) = true := decide_eq_true h3
      have e : putO o = [o.1] ++ lebI o.2.2.1.1 := by unfold putO; rw [if_neg h1, if_pos h3]; rfl
      have q1 := refPutInt [o.1] o.2.2.1.1 (by simp) h.p1
      rw [e]
      simp only [Try.f11, encO, am, simprocAttr, tys]
      refine ACall.of (c) [] [] rfl (by simp) (by simp) (by simp) (by repeat' (first | exact trivial | exact .inl rfl | exact .inr rfl | exact .inr ⟨rfl, by simp⟩ | exact .inr ⟨rfl, rfl, by simp⟩ | apply And.intro)) (by repeat' (first | exact trivial | rfl | exact (tkC_ren.1 _ _).symm | (simp; done) | apply And.intro)) (by first | exact .inl rfl | (refine .inr ⟨trivial, ?_⟩; first | (intro row h; rcases List.mem_singleton.1 h with rfl; exact nvB _) | (intro row h; cases h; done) | (simp; done)) | (refine .inr ⟨by simp [nvP, nvP.nvPs, nvD, nilS, errno], ?_⟩; first | (intro row h; rcases List.mem_singleton.1 h with rfl; exact nvB _) | (intro row h; cases h; done) | (simp [nvRow, nvD, nvP]; done))) ?_
      simp only [bool, c1, d1, c3, d3, am, simprocAttr, tys]
      refine ACall.of (q1) [] [1] rfl (by simp) (by simp) (by simp) (by repeat' (first | exact trivial | exact .inl rfl | exact .inr rfl | exact .inr ⟨rfl, by simp⟩ | exact .inr ⟨rfl, rfl, by simp⟩ | apply And.intro)) (by repeat' (first | exact trivial | rfl | exact (tkC_ren.1 _ _).symm | (simp; done) | apply And.intro)) (by first | exact .inl rfl | (refine .inr ⟨trivial, ?_⟩; first | (intro row h; rcases List.mem_singleton.1 h with rfl; exact nvB _) | (intro row h; cases h; done) | (simp; done)) | (refine .inr ⟨by simp [nvP, nvP.nvPs, nvD, nilS, errno], ?_⟩; first | (intro row h; rcases List.mem_singleton.1 h with rfl; exact nvB _) | (intro row h; cases h; done) | (simp [nvRow, nvD, nvP]; done))) ?_
      simp only [errno, FinR, evRes, evRVs, evRV, am, simprocAttr, tys]
      exact ⟨_, [], [2], rfl, ⟨rfl, rfl, by simp, (fun i hi => absurd hi (Nat.not_lt_zero _)), trivial, ⟨.inr ⟨by decide, rfl⟩, trivial⟩, rfl, by decide, rfl, (by first | rfl | simp [scRow, tkC_scs])⟩, rfl, rfl⟩
    · have d3 : decide (o.1 = 3) = false := decide_eq_false h3
      by_cases h4 : o.1 = 4
      · have d4 : decide (o.1 = 4) = true := decide_eq_true h4
        have ha : rightA o.2.2.2.1 = true := by unfold rightO at hr; rw [if_neg h1, if_pos h4] at hr; exact (Bool.and_eq_true _ _ ▸ hr).1
        have hpl := putA_len ha
        have e : putO o = [o.1] ++ putA o.2.2.2.1 := by unfold putO; rw [if_neg h1, if_neg h3, if_pos h4]; rfl
        rw [e]
        simp only [Try.f11, encO, am, simprocAttr, tys]
        refine ACall.of (c) [] [] rfl (by simp) (by simp) (by simp) (by repeat' (first | exact trivial | exact .inl rfl | exact .inr rfl | exact .inr ⟨rfl, by simp⟩ | exact .inr ⟨rfl, rfl, by simp⟩ | apply And.intro)) (by repeat' (first | exact trivial | rfl | exact (tkC_ren.1 _ _).symm | (simp; done) | apply And.intro)) (by first | exact .inl rfl | (refine .inr ⟨trivial, ?_⟩; first | (intro row h; rcases List.mem_singleton.1 h with rfl; exact nvB _) | (intro row h; cases h; done) | (simp; done)) | (refine .inr ⟨by simp [nvP, nvP.nvPs, nvD, nilS, errno], ?_⟩; first | (intro row h; rcases List.mem_singleton.1 h with rfl; exact nvB _) | (intro row h; cases h; done) | (simp [nvRow, nvD, nvP]; done))) ?_
        simp only [bool, c1, d1, c3, d3, c4, d4, am, simprocAttr, tys]
        refine ACall.of (refMPut o.2.2.2.1 h.a h.ax ha) [] [] rfl (by simp) (by simp) (by simp) (by repeat' (first | exact trivial | exact .inl rfl | exact .inr rfl | exact .inr ⟨rfl, by simp⟩ | exact .inr ⟨rfl, rfl, by simp⟩ | apply And.intro)) (by repeat' (first | exact trivial | rfl | exact (tkC_ren.1 _ _).symm | (simp; done) | apply And.intro)) (by first | exact .inl rfl | (refine .inr ⟨trivial, ?_⟩; first | (intro row h; rcases List.mem_singleton.1 h with rfl; exact nvB _) | (intro row h; cases h; done) | (simp; done)) | (refine .inr ⟨by simp [nvP, nvP.nvPs, nvD, nilS, errno], ?_⟩; first | (intro row h; rcases List.mem_singleton.1 h with rfl; exact nvB _) | (intro row h; cases h; done) | (simp [nvRow, nvD, nvP]; done))) ?_
        simp only [errno, eb1, ← List.map_append, FinR, evRes, evRVs, evRV, am, simprocAttr, tys]
        exact ⟨by simp; omega, ⟨_, [], [3], rfl, ⟨rfl, rfl, by simp, (fun i hi => absurd hi (Nat.not_lt_zero _)), trivial, ⟨.inr ⟨by decide, rfl⟩, trivial⟩, rfl, by decide, rfl, (by first | rfl | simp [scRow, tkC_scs])⟩, rfl, rfl⟩⟩
      · have d4 : decide (o.1 = 4) = false := decide_eq_false h4
        have e : putO o = [o.1] := by unfold putO; rw [if_neg h1, if_neg h3, if_neg h4]
        rw [e]
        simp only [Try.f11, encO, am, simprocAttr, tys]
        refine ACall.of (c) [] [] rfl (by simp) (by simp) (by simp) (by repeat' (first | exact trivial | exact .inl rfl | exact .inr rfl | exact .inr ⟨rfl, by simp⟩ | exact .inr ⟨rfl, rfl, by simp⟩ | apply And.intro)) (by repeat' (first | exact trivial | rfl | exact (tkC_ren.1 _ _).symm | (simp; done) | apply And.intro)) (by first | exact .inl rfl | (refine .inr ⟨trivial, ?_⟩; first | (intro row h; rcases List.mem_singleton.1 h with rfl; exact nvB _) | (intro row h; cases h; done) | (simp; done)) | (refine .inr ⟨by simp [nvP, nvP.nvPs, nvD, nilS, errno], ?_⟩; first | (intro row h; rcases List.mem_singleton.1 h with rfl; exact nvB _) | (intro row h; cases h; done) | (simp [nvRow, nvD, nvP]; done))) ?_
        simp only [bool, c1, d1, c3, d3, c4, d4, errno, FinR, evRes, evRVs, evRV, am, simprocAttr, tys]
        exact ⟨_, [], [1], rfl, ⟨rfl, rfl, by simp, (fun i hi => absurd hi (Nat.not_lt_zero _)), trivial, ⟨.inr ⟨by decide, rfl⟩, trivial⟩, rfl, by decide, rfl, (by first | rfl | simp [scRow, tkC_scs])⟩, rfl, rfl⟩
end Go.Proofs.Ytkadildabhkocaa
